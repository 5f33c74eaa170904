/- The reference's normal form; comparison of lists; copies. -/
import Derived.Test.YtibaocbpeaejkaaGreatUk4
import Derived.Test.YtibaocbpeaejkaaGreatUk6
import Derived.Lib.Hide
namespace Go.Proofs.YtibaocbpeaejkaaGreat
open Go.RowKit
namespace Fp
set_option maxHeartbeats 4000000 in
theorem refNormal_ok {p:Int} {n:Nat} {a:Nat->Int} (hp:0<p) (hp2:p≤65521) (hn:n≤1048576):FnOK Tryz.prog false 67 [.c (.int .i64 p),.c (il n a)] (.c (il (tl (nf p n a) n) (nf p n a))):=by
  refine fn_ok (E:=E0) E0_ok Tryz.func67 rfl mixed (by kernel_rfl) (by kernel_rfl) ?_
  conv=>whnf
  refine loop_ints (fun i:Nat=>ist [(0,.c (.int .i64 p)),(1,.c (il n a)),(5,.c (.gs 0 0)),(6,.c (.int .i64 i))] [(3,i,nf p i a)]) (fun i=>n-i) (fun i=>i≤n) 0 rfl (Weak.ints [none] rfl ⟨rfl,trivial⟩ ⟨⟨_,rfl,rfl⟩,⟨_,_,rfl,rfl,fun _ _ _ _=>rfl⟩,rfl,⟨_,rfl,rfl⟩,trivial⟩) (Nat.zero_le _) fun i hi=>?_
  conv=>whnf
  refine bcase (fun(h:decide ((i:Int)<n)=true)=>?_) fun(h:decide ((i:Int)<n)=false)=>?_
  · have h:=of_decide_eq_true h
    conv=>whnf
    refine⟨by omega,?_⟩
    conv=>whnf
    refine⟨by omega,?_⟩
    conv=>whnf
    refine⟨_,refMod_ok (a:=a i) hp hp2,?_⟩
    conv=>whnf
    refine⟨by show i+1≤16777216;omega,fun x y hx hy=>?_,?_⟩
    · obtain rfl : x = 0 := by have h : x < 1 := hx
                               omega
      obtain rfl : y = 0 := by have h : y < 1 := hy
                               omega
      exact⟨rfl,fun h=>by cases h⟩
    conv=>whnf
    refine⟨i64 (by omega) (by omega),?_⟩
    conv=>whnf
    refine⟨i+1,by omega,Weak.ints [some 0] rfl ⟨⟨_,rfl,rfl,rfl,rfl,rfl,fun j hj=>?_⟩,trivial⟩ ⟨⟨_,rfl,rfl⟩,⟨_,_,rfl,rfl,fun _ _ _ _=>rfl⟩,⟨_,rfl,rfl,rfl⟩,⟨_,rfl,rfl⟩,trivial⟩,by omega⟩
    refine appI ?_ (show i+1≤i+1 from Nat.le_refl _) hj
    exact nf_succ p i a j
  · have h:=of_decide_eq_false h
    obtain rfl:i=n:=by omega
    conv=>whnf
    refine loop_ints (fun m:Nat=>ist [(5,.c (.gs 0 0)),(7,.c (.int .i64 m))] [(3,i,nf p i a)]) (fun m=>m) (fun m=>m≤i/\tl (nf p i a) m=tl (nf p i a) i) i rfl (Weak.ints [some 0] rfl ⟨⟨_,rfl,rfl,rfl,rfl,rfl,fun _ _=>rfl⟩,trivial⟩ ⟨⟨_,rfl,rfl,rfl⟩,⟨_,rfl,rfl⟩,trivial⟩) ⟨Nat.le_refl _,rfl⟩ fun m ⟨hm,ht⟩=>?_
    conv=>whnf
    refine bcase (fun(h:gw true (decide ((0:Int)<m))=true)=>?_) fun(h:gw true (decide ((0:Int)<m))=false)=>?_
    · have h:=of_decide_eq_true (gw_true.1 h)
      obtain⟨k,rfl⟩:∃ k,m=k+1:=⟨m-1,by omega⟩
      have ek:(((k+1:Nat):Int)-1).toNat=k:=by omega
      conv=>whnf
      refine⟨i64 (by omega) (by omega),?_⟩
      conv=>whnf
      refine⟨by omega,?_⟩
      conv=>whnf
      refine⟨by show(((k+1:Nat):Int)-1)<(i:Int);omega,?_⟩
      conv=>whnf
      refine bcase (fun(h1:decide (nf p i a (((k+1:Nat):Int)-1).toNat=0)=true)=>?_) fun(h1:decide (nf p i a (((k+1:Nat):Int)-1).toNat=0)=false)=>?_
      · have h1:=of_decide_eq_true h1
        rw[ek]at h1
        conv=>whnf
        refine⟨i64 (by omega) (by omega),?_⟩
        conv=>whnf
        exact⟨k,by omega,Weak.ints [some 0] rfl ⟨⟨_,rfl,rfl,rfl,rfl,rfl,fun _ _=>rfl⟩,trivial⟩ ⟨⟨_,rfl,rfl,rfl⟩,⟨_,rfl,by omega⟩,trivial⟩,by omega,by rw[← ht];simp[tl,h1]⟩
      · have h1:=of_decide_eq_false h1
        rw[ek]at h1
        conv=>whnf
        refine⟨by omega,by omega,?_⟩
        conv=>whnf
        refine⟨by show((k+1:Nat):Int)≤(i:Int);omega,?_⟩
        conv=>whnf
        refine⟨fun _ _ _ _=>rfl,?_⟩
        conv=>whnf
        refine⟨rfl,subRow (by rw[← ht];simp[tl,h1]) fun j _=>?_⟩
        show nf p i a _=_
        congr 1
        show Int.toNat 0+j=j
        omega
    · have h:¬(0:Int)<m:=of_decide_eq_false (gw_false.1 h)
      obtain rfl:m=0:=by omega
      conv=>whnf
      refine⟨by omega,by omega,?_⟩
      conv=>whnf
      refine⟨by show((0:Nat):Int)≤(i:Int);omega,?_⟩
      conv=>whnf
      refine⟨fun _ _ _ _=>rfl,?_⟩
      conv=>whnf
      exact⟨rfl,subRow (by rw[← ht];rfl) fun j hj=>absurd hj (by rw[← ht];exact Nat.not_lt_zero j)⟩
def same (n m:Nat) (a b:Nat->Int):Prop:=n=m/\∀ i,i<n->a i=b i
theorem appF_zero (f g:Nat->Nat->Cell) (x y:Nat):appF 0 f g x y=g x y:=by
  unfold appF
  rw[if_neg (Nat.not_lt_zero x),Nat.sub_zero]
theorem cloA (f:Nat->Nat->Cell) (a:Nat->Int) (x y:Nat):(appF 0 f (fun i _ => .int .i64 (a i)) x y).clos=true:=by rw[appF_zero];rfl
set_option maxHeartbeats 4000000 in
theorem clone_ok {n:Nat} {a:Nat->Int} (hn:n≤1048576):FnOK Tryz.prog false 129 [.c (il n a)] (.c (il n a)):=by
  rcases Nat.eq_zero_or_pos n with rfl | h0
  · exact cloneIds_ok (g':=fun i _ => .int .i64 (a i)) _ (by decide)
  refine fn_ok (E:=E0) E0_ok Tryz.func129 rfl mixed (by kernel_rfl) (by kernel_rfl) ?_
  conv=>whnf
  refine⟨h0,?_⟩
  conv=>whnf
  refine⟨by show 0+n≤16777216;omega,fun x y hx hy=>?_,?_⟩
  · obtain rfl : y = 0 := by have h : y < 1 := hy
                             omega
    exact⟨rfl,fun h=>by cases h⟩
  conv=>whnf
  refine⟨fun x y _ _=>?_,?_⟩
  · exact cloA (rowF 1 []) a x y
  conv=>whnf
  refine⟨rfl,subRowG (Nat.zero_add n) fun x y _ _=>?_⟩
  exact appF_zero (rowF 1 []) (fun i _=>Cell.int .i64 (a i)) x y
end Fp
end Go.Proofs.YtibaocbpeaejkaaGreat
/- Inverses modulo a prime, as Euclid's algorithm finds them; plain arithmetic. -/
namespace Go.Proofs.YtibaocbpeaejkaaGreat
namespace Fp
structure Eu (a m g r u v : Int) : Prop where
 r0:0≤r
 g0:0<g
 gm:g≤m
 rm:r≤m
 u1 : -m≤u
 u2:u≤m
 v1 : -m≤v
 v2:v≤m
 gd:m∣g-u*a
 rd:m∣r-v*a
 det:∃ s:Int,(s=1∨s = -1)/\0≤s*u/\s*v≤0/\s*(u*r-v*g)=m
 com:∀ d:Int,d∣g->d∣r->d∣a/\d∣m
theorem Eu.start {a m : Int} (h0 : 0 < a) (h1 : a < m) : Eu a m a m 1 0 where
 r0:=by omega
 g0:=h0
 gm:=by omega
 rm:=by omega
 u1:=by omega
 u2:=by omega
 v1:=by omega
 v2:=by omega
 gd:=⟨0,by omega⟩
 rd:=⟨1,by omega⟩
 det:=⟨1,.inl rfl,by omega,by omega,by omega⟩
 com:=fun d h1 h2=>⟨h1,h2⟩
theorem Eu.quo {a m g r u v:Int} (h:Eu a m g r u v) (hr:0<r):Int.tdiv g r=g / r/\0≤g / r/\g / r≤m/\g / r*r≤g/\g-g / r*r=g%r/\0≤g / r*r:=by
 have h1:Int.tdiv g r=g / r:=Int.tdiv_eq_ediv_of_nonneg (by have:=h.g0;omega)
 have h2:0≤g / r:=Int.ediv_nonneg (by have:=h.g0;omega) (by omega)
 have h3:=Int.mul_ediv_add_emod g r
 have h4:=Int.emod_nonneg g (by omega:r≠0)
 have h5:g / r≤g:=Int.ediv_le_self _ (by have:=h.g0;omega)
 have h6:g / r*r=r*(g / r):=Int.mul_comm _ _
 have h7:=Int.mul_nonneg h2 (by omega:0≤r)
 have:=h.gm
 exact⟨h1,h2,by omega,by omega,by omega,h7⟩
theorem Eu.step {a m g r u v:Int} (h:Eu a m g r u v) (hr:0<r):Eu a m r (g-g / r*r) v (u-g / r*v) /\ -(2*m)≤g / r*v/\g / r*v≤2*m/\(g-g / r*r).toNat<r.toNat:=by
 obtain⟨q1,q2,q3,q4,q5,q6⟩:=h.quo hr
 have h4:=Int.emod_nonneg g (by omega:r≠0)
 have h5:=Int.emod_lt_of_pos g hr
 obtain⟨s,hs,s1,s2,s3⟩:=h.det
 generalize g / r=q at *
 have e1 : -s*(v*(g-q*r)-(u-q*v)*r)=m:=by rw[← s3];grind
 have e2:0 ≤ -s*v:=by have : -s*v = -(s*v):=Int.neg_mul _ _;omega
 have e3 : -s*(u-q*v) = -(s*u)+q*(s*v):=by grind
 have e4:q*(s*v)≤0:=by
  have:=Int.mul_nonneg q2 (by omega:0 ≤ -(s*v))
  have e:q * -(s*v) = -(q*(s*v)):=Int.mul_neg _ _
  omega
 have e5 : -s*(u-q*v)≤0:=by omega
 -- the new cofactor is not greater than m
 have e6:0≤(-s*v)*(g-q*r):=Int.mul_nonneg e2 (by omega)
 have e7 : -s*(v*(g-q*r)-(u-q*v)*r)=(-s*v)*(g-q*r)+(-(-s*(u-q*v)))*r:=by grind
 have e8:(-(-s*(u-q*v)))*1≤(-(-s*(u-q*v)))*r:=Int.mul_le_mul_of_nonneg_left (by omega) (by omega)
 have e9 : -(-s*(u-q*v))≤m:=by omega
 have e10 : -m≤u-q*v/\u-q*v≤m:=by
  rcases hs with rfl | rfl <;> omega
 have:=h.u1
 have:=h.u2
 have:=h.v1
 have:=h.v2
 refine⟨⟨by omega,hr,h.rm,by have:=h.gm;omega,h.v1,h.v2,e10.1,e10.2,h.rd,?_,⟨-s,by rcases hs with rfl | rfl <;> simp,e2,e5,e1⟩,fun d h1 h2=>?_⟩,by omega,by omega,by omega⟩
 ·obtain⟨x,hx⟩:=h.gd
  obtain⟨y,hy⟩:=h.rd
  exact⟨x-q*y,by grind⟩
 ·refine h.com d ?_ h1
  have:g=(g-q*r)+q*r:=by omega
  rw[this]
  exact Int.dvd_add h2 (Int.dvd_mul_of_dvd_right h1)
theorem Pr.div {p g:Int} (hp:Pr p) (hg:0<g) (hlt:g<p) (hd:g∣p):g=1:=by
 obtain⟨k,hk⟩:=hd
 rcases Int.lt_or_le 1 g with h | h
 ·exfalso
  have hk0:0<k:=by
   rcases Int.lt_or_le 0 k with h1 | h1
   ·exact h1
   ·have:=Int.mul_nonneg (by omega:0≤g) (by omega:0 ≤ -k)
    have e:g * -k = -(g*k):=Int.mul_neg _ _
    omega
  have hk1:1<k:=by
   rcases Int.lt_or_le 1 k with h1 | h1
   ·exact h1
   ·obtain rfl:k=1:=by omega
    omega
  rcases Int.lt_or_le g k with h2 | h2
  ·have:g*g≤g*k:=Int.mul_le_mul_of_nonneg_left (by omega) (by omega)
   exact hp g (by omega) (by omega) (by rw[hk];exact Int.mul_emod_right _ _)
  ·have:g*k ≥ k*k:=Int.mul_le_mul_of_nonneg_right h2 (by omega)
   exact hp k (by omega) (by omega) (by rw[hk];exact Int.mul_emod_left _ _)
 ·omega
theorem Eu.done {a m g u v:Int} (h:Eu a m g 0 u v) (h0:0<a) (h1:a<m) (hp:Pr m):g=1/\(u%m*a)%m=1%m:=by
 obtain⟨d1,d2⟩:=h.com g (Int.dvd_refl _) (Int.dvd_zero _)
 have hg:g≤a:=Int.le_of_dvd h0 d1
 have e:=hp.div h.g0 (by omega) d2
 refine⟨e,?_⟩
 subst e
 obtain⟨x,hx⟩:=h.gd
 rw[Int.mul_emod,Int.emod_emod,← Int.mul_emod]
 have:u*a=1+m * -x:=by grind
 rw[this,Int.add_mul_emod_self_left]
open Classical in
noncomputable def inv (c p:Int):Int:=if h:∃ x,0≤x/\x<p/\(x*c)%p=1 then h.choose else 0
theorem inv_eq {c p x:Int} (h0:0≤x) (h1:x<p) (h:(x*c)%p=1):x=inv c p:=by
 have hex:∃ x,0≤x/\x<p/\(x*c)%p=1:=⟨x,h0,h1,h⟩
 unfold inv
 rw[dif_pos hex]
 obtain⟨g1,g2,g3⟩:=hex.choose_spec
 generalize hex.choose=y at g1 g2 g3
 have e1:=Int.mul_ediv_add_emod (x*c) p
 have e2:=Int.mul_ediv_add_emod (y*c) p
 rw[h]at e1
 rw[g3]at e2
 generalize x*c / p=k at e1
 generalize y*c / p=l at e2
 have e3:x-y=p*(y*k-x*l):=by grind
 have e4:p∣x-y:=⟨_,e3⟩
 rcases Int.lt_trichotomy (x-y) 0 with h2 | h2 | h2
 ·have:=Int.le_of_dvd (by omega:0 < -(x-y)) ((Int.dvd_neg).2 e4)
  omega
 ·omega
 ·have:=Int.le_of_dvd h2 e4
  omega
theorem Eu.inv {c m g u v:Int} (h:Eu (c%m) m g 0 u v) (h0:0<c%m) (hm:1<m) (hp:Pr m):g=1/\u%m=Fp.inv c m/\(Fp.inv c m*c)%m=1:=by
 obtain⟨h1,h2⟩:=h.done h0 (Int.emod_lt_of_pos c (by omega)) hp
 have h3:(u%m*c)%m=1:=by
  rw[Int.mul_emod,Int.emod_emod]at h2 ⊢
  rw[Int.emod_emod]at h2
  rw[h2]
  exact Int.emod_eq_of_lt (by omega) hm
 have h4:=inv_eq (Int.emod_nonneg u (by omega:m≠0)) (Int.emod_lt_of_pos u (by omega)) h3
 exact⟨h1,h4,by rw[← h4];exact h3⟩
theorem inv_range {c p:Int} (hp:0<p):0≤inv c p/\inv c p<p:=by
 unfold inv
 split
 ·rename_i h
  exact⟨h.choose_spec.1,h.choose_spec.2.1⟩
 ·omega
end Fp
end Go.Proofs.YtibaocbpeaejkaaGreat
/- Inverses: Euclid's algorithm in arith and in the reference. -/
namespace Go.Proofs.YtibaocbpeaejkaaGreat
open Go.RowKit
namespace Fp
set_option maxHeartbeats 4000000 in
theorem aresidue_ok {a p:Int} (hp:0<p) (hp2:p≤65521):FnOK Tryz.prog false 174 [.c (.int .i64 a),.c (.int .i64 p)] (.c (.int .i64 (a%p))):=by
 refine fn_ok (E:=E0) E0_ok Tryz.func174 rfl mixed (by kernel_rfl) (by kernel_rfl) ?_
 have hb:=tmod_bounds (a:=a) hp
 conv=>whnf
 refine⟨by omega,?_⟩
 conv=>whnf
 refine bcase (fun(h1:decide (Int.tmod a p<0)=true)=>?_) fun(h1:decide (Int.tmod a p<0)=false)=>?_
 ·have h1:=of_decide_eq_true h1
  conv=>whnf
  refine⟨i64 (by omega) (by omega),?_⟩
  conv=>whnf
  exact⟨rfl,subI (tmod_neg hp h1)⟩
 ·have h1:=of_decide_eq_false h1
  conv=>whnf
  exact⟨rfl,subI (tmod_pos hp h1)⟩
theorem aresidue_to {a p q x:Int} (e:q=p) (ex:a%p=x) (hp:0<p) (hp2:p≤65521):FnOK Tryz.prog false 174 [.c (.int .i64 a),.c (.int .i64 q)] (.c (.int .i64 x)):=by
 subst e ex;exact aresidue_ok hp hp2
theorem IntKind.wrap_i64_in {n:Int} (h1 : -9223372036854775808≤n) (h2:n≤9223372036854775807):IntKind.i64.wrap n=n:=by
 rw[IntKind.wrap_i64];omega
set_option maxHeartbeats 4000000 in
theorem inRange_ok {n:Int} (h1:1≤n) (h2:n≤65521):FnOK Tryz.prog false 72 [.c (.int .i64 n)] (.c (.bool true)):=by
 refine fn_ok (E:=E0) E0_ok Tryz.func72 rfl mixed (by kernel_rfl) (by kernel_rfl) ?_
 conv=>whnf
 refine bpos (show gw true (decide (1≤n))=true by simp[gw];omega) ?_
 conv=>whnf
 exact⟨rfl,subB (decide_eq_true (by omega))⟩
set_option maxHeartbeats 4000000 in
theorem refInRange_ok {n:Int} (h1:1≤n) (h2:n≤65521):FnOK Tryz.prog false 99 [.c (.int .i64 n)] (.c (.bool true)):=by
 refine fn_ok (E:=E0) E0_ok Tryz.func99 rfl mixed (by kernel_rfl) (by kernel_rfl) ?_
 conv=>whnf
 refine bpos (show gw true (decide (1≤n))=true by simp[gw];omega) ?_
 conv=>whnf
 exact⟨rfl,subB (decide_eq_true (by omega))⟩
set_option maxHeartbeats 4000000 in
theorem xgcd_ok {a p:Int} (hp:md p) (h0:0<a) (ha:a<p):FnOK Tryz.prog false 173 [.c (.int .i64 a),.c (.int .i64 p)] (.t4 (.c (.int .i64 1)) (.c (.int .i64 (inv a p))) (.c (.int .i64 (Int.tdiv (1-inv a p*a) p))) (.c (.int .i64 0))):=by
 obtain⟨h1,h2,hP⟩:=hp
 have ea:a%p=a:=Int.emod_eq_of_lt (by omega) ha
 have hi:=inv_range (c:=a) (p:=p) (by omega)
 refine fn_ok (E:=E0) E0_ok Tryz.func173 rfl mixed (by kernel_rfl) (by kernel_rfl) ?_
 conv=>whnf
 refine bpos (show gw false (decide (a < -2147483647))=true by simp[gw];omega) ?_
 conv=>whnf
 refine bpos (show gw false (decide (2147483647<a))=true by simp[gw];omega) ?_
 conv=>whnf
 refine bpos (show gw false (decide (p < -2147483647))=true by simp[gw];omega) ?_
 conv=>whnf
 refine bneg (show decide (2147483647<p)=false by simp;omega) ?_
 conv=>whnf
 refine bneg (show decide (p=0)=false by simp;omega) ?_
 conv=>whnf
 refine loop_ints (fun((g,r,u,v):Int × Int × Int × Int)=>ist [(0,.c (.int .i64 a)),(1,.c (.int .i64 p)),(4,.c (.int .i64 g)),(9,.c (.int .i64 r)),(5,.c (.int .i64 u)),(8,.c (.int .i64 v))] []) (fun(_,r,_,_)=>r.toNat) (fun(g,r,u,v)=>Eu (a%p) p g r u v) (a,p,1,0) rfl ?_ (by show Eu (a%p) p a p 1 0;rw[ea];exact Eu.start h0 ha) ?_
 ·exact Weak.ints [] rfl trivial ⟨⟨_,rfl,rfl⟩,⟨_,rfl,rfl⟩,⟨_,rfl,rfl⟩,⟨_,rfl,rfl⟩,⟨_,rfl,rfl⟩,⟨_,rfl,rfl⟩,trivial⟩
 rintro ⟨g,r,u,v⟩ hE
 have hE:Eu (a%p) p g r u v:=hE
 conv=>whnf
 refine bcase (fun(h:(!decide (r=0))=true)=>?_) fun(h:(!decide (r=0))=false)=>?_
 ·have h:r≠0:=by simpa using h
  have h:0<r:=by have:=hE.r0;omega
  obtain⟨q1,q2,q3,q4,q5,q6⟩:=hE.quo h
  obtain⟨s1,s2,s3,s4⟩:=hE.step h
  rw[← q1]at q2 q3 q4 q5 q6 s1 s2 s3 s4
  have:=hE.u1
  have:=hE.u2
  have:=hE.gm
  conv=>whnf
  refine⟨by omega,i64 (by omega) (by omega),?_⟩
  conv=>whnf
  refine⟨i64 (by omega) (by omega),?_⟩
  conv=>whnf
  refine⟨i64 (by omega) (by omega),?_⟩
  conv=>whnf
  refine⟨i64 (by omega) (by omega),?_⟩
  conv=>whnf
  refine⟨i64 (by omega) (by omega),?_⟩
  conv=>whnf
  exact⟨(r,g-Int.tdiv g r*r,v,u-Int.tdiv g r*v),s4,Weak.ints [] rfl trivial ⟨⟨_,rfl,rfl⟩,⟨_,rfl,rfl⟩,⟨_,rfl,rfl⟩,⟨_,rfl,rfl⟩,⟨_,rfl,rfl⟩,⟨_,rfl,rfl⟩,trivial⟩,s1⟩
 ·obtain rfl:r=0:=by simpa using h
  obtain⟨e1,e2,e3⟩:=hE.inv (by omega) (by omega) hP
  subst e1
  conv=>whnf
  have em:Int.tdiv (if IntKind.i64.wrap (-p) > p then IntKind.i64.wrap (-p)else p) 1=p:=by
   rw[IntKind.wrap_i64_in (by omega) (by omega),if_neg (by omega),Int.tdiv_one]
  refine⟨by omega,by rw[em];exact i64 (by omega) (by omega),?_⟩
  conv=>whnf
  refine⟨_,aresidue_to (a:=u) (x:=inv a p) em e2 (by omega) h2,?_⟩
  conv=>whnf
  have b0:0≤inv a p*a:=by exact Int.mul_nonneg hi.1 (by omega)
  have b1:inv a p*a≤65521*65521:=by exact Int.mul_le_mul (by omega) (by omega) (by omega) (by omega)
  have b2:Int.natAbs (Int.tdiv (1-inv a p*a) p)≤Int.natAbs (1-inv a p*a):=by
   rw[Int.natAbs_tdiv];exact Nat.div_le_self _ _
  refine⟨i64 (by omega) (by omega),?_⟩
  conv=>whnf
  refine⟨i64 (by omega) (by omega),?_⟩
  conv=>whnf
  refine⟨by omega,i64 (by omega) (by omega),?_⟩
  conv=>whnf
  exact⟨rfl,Sub.refl _⟩
theorem xgcd_to {a p y:Int} (e:inv a p=y) (hp:md p) (h0:0<a) (ha:a<p):FnOK Tryz.prog false 173 [.c (.int .i64 a),.c (.int .i64 p)] (.t4 (.c (.int .i64 1)) (.c (.int .i64 y)) (.c (.int .i64 (Int.tdiv (1-y*a) p))) (.c (.int .i64 0))):=by
 subst e;exact xgcd_ok hp h0 ha
set_option maxHeartbeats 4000000 in
theorem ainverse_ok {c p:Int} (hp:md p) (hc:0<c%p):FnOK Tryz.prog false 134 [.c (.int .i64 c),.c (.int .i64 p)] (.t2 (.c (.int .i64 (inv c p))) (.c (.int .i64 0))):=by
 have hlt:=Int.emod_lt_of_pos c (by have:=hp.1;omega:0<p)
 have e:inv (c%p) p=inv c p:=by
  have e:∀ x:Int,(x*(c%p))%p=(x*c)%p:=fun x=>by rw[Int.mul_emod,Int.emod_emod,← Int.mul_emod]
  by_cases h:∃ x,0≤x/\x<p/\(x*(c%p))%p=1
  ·have h1:=h.choose_spec
   rw[show inv (c%p) p=h.choose by unfold inv;rw[dif_pos h]]
   exact inv_eq h1.1 h1.2.1 (by rw[← e];exact h1.2.2)
  ·unfold inv
   rw[dif_neg h,dif_neg fun⟨x,h1,h2,h3⟩=>h ⟨x,h1,h2,by rw[e];exact h3⟩]
 refine fn_ok (E:=E0) E0_ok Tryz.func134 rfl mixed (by kernel_rfl) (by kernel_rfl) ?_
 conv=>whnf
 refine⟨_,inRange_ok (by have:=hp.1;omega) hp.2.1,?_⟩
 conv=>whnf
 refine⟨_,aresidue_ok (a:=c) (by have:=hp.1;omega) hp.2.1,?_⟩
 conv=>whnf
 refine⟨_,xgcd_to e hp hc hlt,?_⟩
 conv=>whnf
 exact⟨rfl,Sub.refl _⟩
set_option maxHeartbeats 4000000 in
theorem inverse_ok {c p:Int} (hp:md p) (hc:0<c%p):FnOK Tryz.prog false 108 [.c (.int .i64 c),.c (.int .i64 p)] (.c (.int .i64 (inv c p))):=by
 refine fn_ok (E:=E0) E0_ok Tryz.func108 rfl mixed (by kernel_rfl) (by kernel_rfl) ?_
 conv=>whnf
 refine⟨_,ainverse_ok hp hc,?_⟩
 conv=>whnf
 exact⟨rfl,Sub.refl _⟩
end Fp
end Go.Proofs.YtibaocbpeaejkaaGreat
/- Products of lists modulo a prime; a copy that may be written. -/
namespace Go.Proofs.YtibaocbpeaejkaaGreat
open Go.RowKit
namespace Fp
def cv (F G : Nat → Int) : Nat → Nat → Int
 | 0,_=>0
 | i+1,n=>cv F G i n+if i≤n then F i*G (n-i)else 0
def ps (p:Int) (F G:Nat->Int) (i j n:Nat):Int:=(cv F G i n+if i≤n/\n<i+j then F i*G (n-i)else 0)%p
theorem ps_zero {p:Int} {F G:Nat->Int} {i n:Nat}:ps p F G i 0 n=cv F G i n%p:=by
 unfold ps
 rw[if_neg (by omega),Int.add_zero]
theorem ps_step {p:Int} {F G:Nat->Int} {i j n:Nat}:(if n=i+j then(ps p F G i j n+F i*G j)%p else ps p F G i j n)=ps p F G i (j+1) n:=by
 unfold ps
 by_cases e:n=i+j
 ·subst e
  rw[if_pos rfl,if_neg (by omega),if_pos (by omega),Int.add_zero,Nat.add_sub_cancel_left,Int.emod_add_emod]
 ·rw[if_neg e]
  by_cases h:i≤n/\n<i+j
  ·rw[if_pos h,if_pos (by omega)]
  ·rw[if_neg h,if_neg (by omega)]
theorem ps_full {p:Int} {F G:Nat->Int} {i m n:Nat} (hG:∀ j,m≤j->G j=0):ps p F G i m n=ps p F G (i+1) 0 n:=by
 rw[ps_zero,show cv F G (i+1) n=cv F G i n+if i≤n then F i*G (n-i)else 0 from rfl]
 unfold ps
 by_cases h:i≤n
 ·by_cases h2:n<i+m
  ·rw[if_pos ⟨h,h2⟩,if_pos h]
  ·rw[if_neg (by omega),if_pos h,hG (n-i) (by omega),Int.mul_zero]
 ·rw[if_neg (by omega),if_neg h]
theorem ps_range {p:Int} {F G:Nat->Int} {i j n:Nat} (hp:0<p):0≤ps p F G i j n/\ps p F G i j n<p:=⟨Int.emod_nonneg _ (by omega),Int.emod_lt_of_pos _ hp⟩
def pr (p:Int) (F G:Nat->Int) (n k:Nat):Int:=cv F G n k%p
theorem tl_zero {a : Nat → Int} : ∀ {n : Nat}, (∀ i, i < n → a i = 0) → tl a n = 0
 | 0,_=>rfl
 | n+1,h=>by
  unfold tl
  rw[if_pos (h n (by omega)),tl_zero fun i hi=>h i (by omega)]
theorem subNil {a:Nat->Int} {n:Nat} (h:n=0):Sub (.c .nil) (.c (il n a)):=by
 subst h
 intro D w v hv
 exact⟨none,0,hv,Nat.le_refl _,fun h=>absurd h (Nat.lt_irrefl _)⟩
theorem cv_zero {F G : Nat → Int} (hG : ∀ j, G j = 0) : ∀ {i n : Nat}, cv F G i n = 0
 | 0,_=>rfl
 | i+1,n=>by
  unfold cv
  rw[cv_zero hG,hG,Int.mul_zero]
  simp
theorem mul_bounds {p x y:Int} (hp:p≤65521) (hx:0≤x/\x<p) (hy:0≤y/\y<p):0≤x*y/\x*y≤65521*65521 :=
 ⟨Int.mul_nonneg hx.1 hy.1,Int.mul_le_mul (by omega) (by omega) hy.1 (by omega)⟩
set_option maxHeartbeats 4000000 in
theorem times_ok {p:Int} {n m:Nat} {F G:Nat->Int} (hp:2≤p) (hp2:p≤65521) (hn:n≤1024) (hm:m≤1024) (hF:∀ i,0≤F i/\F i<p) (hG:∀ i,0≤G i/\G i<p) (hG0:∀ j,m≤j->G j=0):FnOK Tryz.prog false 69 [.c (.int .i64 p),.c (il n F),.c (il m G)] (.c (il (tl (pr p F G n) (n+m-1)) (pr p F G n))):=by
 refine fn_ok (E:=E0) E0_ok Tryz.func69 rfl mixed (by kernel_rfl) (by kernel_rfl) ?_
 conv=>whnf
 refine bcase (fun(h1:gw false (decide ((n:Int)=0))=true)=>?_) fun(h1:gw false (decide ((n:Int)=0))=false)=>?_
 ·have h1:=of_decide_eq_false (gwf h1)
  conv=>whnf
  refine bcase (fun(h2:decide ((m:Int)=0)=true)=>?_) fun(h2:decide ((m:Int)=0)=false)=>?_
  ·have h2:=of_decide_eq_true h2
   conv=>whnf
   exact⟨rfl,subNil (tl_zero fun i _=>by unfold pr;rw[cv_zero fun j=>hG0 j (by omega)];rfl)⟩
  ·have h2:=of_decide_eq_false h2
   conv=>whnf
   refine⟨i64 (by omega) (by omega),?_⟩
   conv=>whnf
   refine⟨i64 (by omega) (by omega),?_⟩
   conv=>whnf
   refine⟨by omega,by omega,by omega,by show((8:Nat):Int)*((n:Int)+(m:Int)-1)≤_;omega,?_⟩
   conv=>whnf
   refine loop_ints (fun i:Nat=>ist [(0,.c (.int .i64 p)),(2,.c (il m G)),(7,.c (.gs 0 0)),(27,.c (il n F)),(28,.c (.int .i64 n)),(29,.c (.int .i64 i))] [(3,n+m-1,ps p F G i 0)]) (fun i=>n-i) (fun i=>i≤n) 0 rfl ?_ (Nat.zero_le _) fun i hi=>?_
   ·refine Weak.ints [some 0] rfl ⟨⟨_,rfl,rfl,rfl,?_,rfl,fun i hi=>?_⟩,trivial⟩ ⟨⟨_,rfl,rfl⟩,⟨_,_,rfl,rfl,fun _ _ _ _=>rfl⟩,⟨_,rfl,rfl,rfl⟩,⟨_,_,rfl,rfl,fun _ _ _ _=>rfl⟩,⟨_,rfl,rfl⟩,⟨_,rfl,rfl⟩,trivial⟩
    ·show((n:Int)+(m:Int)-1).toNat=n+m-1
     omega
    ·exact congrArg (Cell.int .i64) (show(0:Int)=ps p F G 0 0 i by rw[ps_zero];simp[cv])
   conv=>whnf
   refine bcase (fun(h:decide ((i:Int)<n)=true)=>?_) fun(h:decide ((i:Int)<n)=false)=>?_
   ·have h:=of_decide_eq_true h
    conv=>whnf
    refine⟨by omega,?_⟩
    conv=>whnf
    refine⟨by omega,?_⟩
    conv=>whnf
    refine loop_ints (fun j:Nat=>ist [(0,.c (.int .i64 p)),(2,.c (il m G)),(7,.c (.gs 0 0)),(27,.c (il n F)),(28,.c (.int .i64 n)),(29,.c (.int .i64 i)),(8,.c (.int .i64 i)),(9,.c (.int .i64 (F i))),(34,.c (il m G)),(35,.c (.int .i64 m)),(36,.c (.int .i64 j))] [(3,n+m-1,ps p F G i j)]) (fun j=>m-j) (fun j=>j≤m) 0 rfl ?_ (Nat.zero_le _) fun j hj=>?_
    ·exact Weak.ints [some 0] rfl ⟨⟨_,rfl,rfl,rfl,rfl,rfl,fun _ _=>rfl⟩,trivial⟩ ⟨⟨_,rfl,rfl⟩,⟨_,_,rfl,rfl,fun _ _ _ _=>rfl⟩,⟨_,rfl,rfl,rfl⟩,⟨_,_,rfl,rfl,fun _ _ _ _=>rfl⟩,⟨_,rfl,rfl⟩,⟨_,rfl,rfl⟩,⟨_,rfl,rfl⟩,⟨_,rfl,rfl⟩,⟨_,_,rfl,rfl,fun _ _ _ _=>rfl⟩,⟨_,rfl,rfl⟩,⟨_,rfl,rfl⟩,trivial⟩
    conv=>whnf
    refine bcase (fun(h':decide ((j:Int)<m)=true)=>?_) fun(h':decide ((j:Int)<m)=false)=>?_
    ·have h':=of_decide_eq_true h'
     have b1:=mul_bounds hp2 (hF i) (hG j)
     have b2:=ps_range (p:=p) (F:=F) (G:=G) (i:=i) (j:=j) (n:=i+j) (by omega)
     conv=>whnf
     refine⟨by omega,?_⟩
     conv=>whnf
     refine⟨by omega,?_⟩
     conv=>whnf
     refine⟨i64 (by omega) (by omega),?_⟩
     conv=>whnf
     refine⟨i64 (by omega) (by omega),?_⟩
     conv=>whnf
     refine⟨by omega,?_⟩
     conv=>whnf
     refine⟨by show(i:Int)+(j:Int)<((n+m-1:Nat):Int);omega,?_⟩
     conv=>whnf
     have eij:((i:Int)+(j:Int)).toNat=i+j:=by omega
     refine⟨by show inR .i64 (F i*G j);exact i64 (by omega) (by omega),?_⟩
     conv=>whnf
     refine⟨by show inR .i64 (ps p F G i j ((i:Int)+(j:Int)).toNat+F i*G j);rw[eij];exact i64 (by omega) (by omega),?_⟩
     conv=>whnf
     refine⟨by omega,?_⟩
     conv=>whnf
     refine⟨by omega,?_⟩
     conv=>whnf
     refine⟨by show(i:Int)+(j:Int)<((n+m-1:Nat):Int);omega,?_⟩
     conv=>whnf
     refine⟨i64 (by omega) (by omega),?_⟩
     conv=>whnf
     refine⟨j+1,by omega,?_,by omega⟩
     refine Weak.ints [some 0] rfl ⟨⟨_,rfl,rfl,rfl,rfl,rfl,fun k hk=>updI ?_⟩,trivial⟩ ⟨⟨_,rfl,rfl⟩,⟨_,_,rfl,rfl,fun _ _ _ _=>rfl⟩,⟨_,rfl,rfl,rfl⟩,⟨_,_,rfl,rfl,fun _ _ _ _=>rfl⟩,⟨_,rfl,rfl⟩,⟨_,rfl,rfl⟩,⟨_,rfl,rfl⟩,⟨_,rfl,rfl⟩,⟨_,_,rfl,rfl,fun _ _ _ _=>rfl⟩,⟨_,rfl,rfl⟩,⟨_,rfl,rfl⟩,trivial⟩
     show(if k=((i:Int)+(j:Int)).toNat then Int.tmod (ps p F G i j ((i:Int)+(j:Int)).toNat+F i*G j) p else ps p F G i j k)=ps p F G i (j+1) k
     rw[eij,rem_eq (by omega),← ps_step]
     by_cases e:k=i+j
     ·subst e;rfl
     ·rw[if_neg e,if_neg e]
    ·have h':=of_decide_eq_false h'
     obtain rfl:j=m:=by omega
     conv=>whnf
     refine⟨i64 (by omega) (by omega),?_⟩
     conv=>whnf
     refine⟨i+1,by omega,?_,by omega⟩
     exact Weak.ints [some 0] rfl ⟨⟨_,rfl,rfl,rfl,rfl,rfl,fun k hk=>congrArg (Cell.int .i64) (ps_full hG0)⟩,trivial⟩ ⟨⟨_,rfl,rfl⟩,⟨_,_,rfl,rfl,fun _ _ _ _=>rfl⟩,⟨_,rfl,rfl,rfl⟩,⟨_,_,rfl,rfl,fun _ _ _ _=>rfl⟩,⟨_,rfl,rfl⟩,⟨_,rfl,rfl⟩,trivial⟩
   ·have h:=of_decide_eq_false h
    obtain rfl:i=n:=by omega
    conv=>whnf
    refine⟨fun _ _ _ _=>rfl,?_⟩
    conv=>whnf
    refine⟨_,trimmed_ok (n:=i+m-1) (a:=ps p F G i 0) (by omega),?_⟩
    conv=>whnf
    exact⟨rfl,subRow (tl_congr fun k _=>ps_zero) fun k _=>ps_zero⟩
 ·have h1:=of_decide_eq_true (gwf' h1)
  conv=>whnf
  exact⟨rfl,subNil (tl_zero fun i _=>by rw[show n=0 by omega];exact Int.zero_emod p)⟩
end Fp
end Go.Proofs.YtibaocbpeaejkaaGreat
/- Quotients and remainders of lists modulo a prime. -/
namespace Go.Proofs.YtibaocbpeaejkaaGreat
open Go.RowKit
namespace Fp
set_option maxHeartbeats 4000000 in
theorem clone_m {n:Nat} {a:Nat->Int} (h0:0<n) (hn:n≤1048576):FnM Tryz.prog false 129 phB [.c (il n a)] (.c (.gs 1 0)) phB [ib (3,n,a)]:=by
  refine fnm_ok (E:=E0m) E0m_ok Tryz.func129 rfl mixed (by kernel_rfl) (by kernel_rfl) rfl ?_
  conv=>whnf
  refine⟨h0,?_⟩
  conv=>whnf
  refine⟨by show 0+n≤16777216;omega,fun x y hx hy=>?_,?_⟩
  · obtain rfl : y = 0 := by have h : y < 1 := hy
                             omega
    exact⟨rfl,fun h=>by cases h⟩
  conv=>whnf
  refine(Weak.reset 1 rfl (Nat.zero_le _) rfl).trans ?_
  refine(Weak.cut (tl:=[(0,.c (.gs 1 0))]) (bl':=[phB,⟨3,1,0+n,0,0,fun i j=>resetC 1 1 (appF 0 (rowF 1 []) (fun i _ => .int .i64 (a i)) i j)⟩]) rfl ⟨rfl,trivial⟩ rfl ⟨fun h=>absurd h (by decide),fun _ i j _ hj=>?_,trivial⟩ rfl).trans ?_
  · show(resetC 1 1 (appF 0 (rowF 1 []) (fun i _ => .int .i64 (a i)) i j)).lt 2=true
    rw[appF_zero];rfl
  · simp only[Nat.zero_add]
    exact Weak.alike ⟨Blk.alike.refl _,⟨rfl,fun i j _ _=>by show resetC 1 1 (appF 0 (rowF 1 []) (fun i _ => .int .i64 (a i)) i j)=_;rw[appF_zero];rfl⟩,trivial⟩
def dpart (p c:Int) (G r:Nat->Int) (i j n:Nat):Int:=if i≤n/\n<i+j then(r n-c*G (n-i))%p else r n
theorem dpart_zero {p c:Int} {G r:Nat->Int} {i n:Nat}:dpart p c G r i 0 n=r n:=by
  unfold dpart;rw[if_neg (by omega)]
theorem dpart_step {p c:Int} {G r:Nat->Int} {i j n:Nat}:(if n=i+j then(r (i+j)+(p-c)*G j)%p else dpart p c G r i j n)=dpart p c G r i (j+1) n:=by
  unfold dpart
  by_cases e:n=i+j
  · subst e
    rw[if_pos rfl,if_pos (by omega),Nat.add_sub_cancel_left]
    have:r (i+j)+(p-c)*G j=(r (i+j)-c*G j)+p*G j:=by grind
    rw[this,Int.add_mul_emod_self_left]
  · rw[if_neg e]
    by_cases h:i≤n/\n<i+j
    · rw[if_pos h,if_pos (by omega)]
    · rw[if_neg h,if_neg (by omega)]
def dn (p b : Int) (m N : Nat) (F G : Nat → Int) : Nat → Nat → Int
  | 0=>F
  | t+1=>dpart p ((dn p b m N F G t (N-1-t+m-1)*b)%p) G (dn p b m N F G t) (N-1-t) m
def dq (p b:Int) (m N:Nat) (F G:Nat->Int) (i:Nat):Int:=(dn p b m N F G (N-(i+1)) (i+m-1)*b)%p
theorem dn_step {p b:Int} {m N:Nat} {F G:Nat->Int} {i:Nat} (hi:i<N):dn p b m N F G (N-i)=dpart p (dq p b m N F G i) G (dn p b m N F G (N-(i+1))) i m:=by
  have e:N-i=(N-(i+1))+1:=by omega
  rw[e]
  show dpart p _ G _ (N-1-(N-(i+1))) m=_
  rw[show N-1-(N-(i+1))=i by omega]
  rfl
theorem dn_range {p b : Int} {m N : Nat} {F G : Nat → Int} (hp : 0 < p) (hF : ∀ i, 0 ≤ F i ∧ F i < p) : ∀ t n, 0 ≤ dn p b m N F G t n ∧ dn p b m N F G t n < p
  | 0,n=>hF n
  | t+1,n=>by
    show 0≤dpart _ _ _ _ _ _ _/\dpart _ _ _ _ _ _ _<p
    unfold dpart
    split
    · exact⟨Int.emod_nonneg _ (by omega),Int.emod_lt_of_pos _ hp⟩
    · exact dn_range hp hF t n
theorem dq_range {p b:Int} {m N:Nat} {F G:Nat->Int} (hp:0<p) (i:Nat):0≤dq p b m N F G i/\dq p b m N F G i<p:=⟨Int.emod_nonneg _ (by omega),Int.emod_lt_of_pos _ hp⟩
set_option maxHeartbeats 4000000 in
theorem divide_ok {p:Int} {n m:Nat} {F G:Nat->Int} (hp:md p) (hn:n≤4096) (h0:0<m) (hnm:m≤n) (hF:∀ i,0≤F i/\F i<p) (hG:∀ i,0≤G i/\G i<p) (hl:G (m-1)≠0):FnOK Tryz.prog false 104 [.c (.int .i64 p),.c (il n F),.c (il m G)] (.t2 (.c (il (n+1-m) (dq p (inv (G (m-1)) p) m (n+1-m) F G))) (.c (il (tl (dn p (inv (G (m-1)) p) m (n+1-m) F G (n+1-m)) n) (dn p (inv (G (m-1)) p) m (n+1-m) F G (n+1-m))))):=by
  obtain⟨hp1,hp2,hP⟩:=hp
  have hi:=inv_range (c:=G (m-1)) (p:=p) (by omega)
  have hg:0<G (m-1)%p:=by
    rw[Int.emod_eq_of_lt (hG _).1 (hG _).2]
    have:=(hG (m-1)).1
    omega
  have hdr:=fun t k=>dn_range (b:=inv (G (m-1)) p) (m:=m) (N:=n+1-m) (F:=F) (G:=G) (by omega) hF t k
  have hqr:=fun i=>dq_range (p:=p) (b:=inv (G (m-1)) p) (m:=m) (N:=n+1-m) (F:=F) (G:=G) (by omega) i
  have hN:m+(n+1-m)=n+1:=by omega
  have hinv:=inverse_ok (c:=G (m-1)) ⟨hp1,hp2,hP⟩ hg
  generalize inv (G (m-1)) p=b at *
  generalize n+1-m=N at *
  refine fn_ok (E:=E0) E0_ok Tryz.func104 rfl mixed (by kernel_rfl) (by kernel_rfl) ?_
  conv=>whnf
  refine .inl ⟨[],true,?_⟩
  conv=>whnf
  refine⟨0,phB,[.c (il n F)],_,_,_,clone_m (by omega) (by omega),rfl,.inr (Nat.le_refl 2),fun h=>absurd h (by decide),fun h=>absurd h (by decide),fun F' hF'=>?_,rfl,rfl,?_⟩
  · simp at hF';subst hF';exact fun _ _ _ _ _=>rfl
  conv=>whnf
  refine bneg (show decide ((n:Int)<m)=false by simp;omega) ?_
  conv=>whnf
  have em:((m:Int)-1).toNat=m-1:=by omega
  refine⟨i64 (by omega) (by omega),?_⟩
  conv=>whnf
  refine⟨by omega,?_⟩
  conv=>whnf
  refine⟨by omega,?_⟩
  conv=>whnf
  refine⟨_,(show FnOK Tryz.prog false 108 [.c (.int .i64 (G ((m:Int)-1).toNat)),.c (.int .i64 p)] (.c (.int .i64 b))by rw[em];exact hinv),?_⟩
  conv=>whnf
  refine⟨i64 (by omega) (by omega),?_⟩
  conv=>whnf
  refine⟨i64 (by omega) (by omega),?_⟩
  conv=>whnf
  refine⟨by omega,by omega,by omega,by show((8:Nat):Int)*((n:Int)-(m:Int)+1)≤_;omega,?_⟩
  conv=>whnf
  have en:((n:Int)-(m:Int)+1).toNat=N:=by omega
  refine⟨by show inR .i64 (((((n:Int)-(m:Int)+1).toNat:Nat):Int)-1);rw[en];exact i64 (by omega) (by omega),?_⟩
  conv=>whnf
  refine loop_ints (fun k:Nat=>ist [(0,.c (.int .i64 p)),(2,.c (il m G)),(6,.c (.gs 1 0)),(7,.c (.gs 0 0)),(8,.c (.int .i64 b)),(9,.c (.int .i64 ((k:Int)-1)))] [(3,n,dn p b m N F G (N-k)),(3,N,fun i=>if k≤i then dq p b m N F G i else 0)]) (fun k=>k) (fun k=>k≤N) N rfl ?_ (Nat.le_refl _) fun k hk=>?_
  · refine Weak.ints [some 1,some 2] rfl ⟨⟨_,rfl,rfl,rfl,rfl,rfl,fun i hi=>?_⟩,⟨_,rfl,rfl,rfl,en,rfl,fun i hi=>?_⟩,trivial⟩ ⟨⟨_,rfl,rfl⟩,⟨_,_,rfl,rfl,fun _ _ _ _=>rfl⟩,⟨_,rfl,rfl,rfl⟩,⟨_,rfl,rfl,rfl⟩,⟨_,rfl,rfl⟩,⟨_,rfl,?_⟩,trivial⟩
    · exact congrArg (Cell.int .i64) (show F i=dn p b m N F G (N-N) i by rw[Nat.sub_self];rfl)
    · have hi:i<N:=hi
      exact congrArg (Cell.int .i64) (show(0:Int)=if N≤i then dq p b m N F G i else 0 by rw[if_neg (by omega)])
    · show((((n:Int)-(m:Int)+1).toNat:Nat):Int)-1=(N:Int)-1
      rw[en]
  conv=>whnf
  refine bcase (fun(h:decide ((0:Int)≤(k:Int)-1)=true)=>?_) fun(h:decide ((0:Int)≤(k:Int)-1)=false)=>?_
  · have h:=of_decide_eq_true h
    obtain⟨i,rfl⟩:∃ i,k=i+1:=⟨k-1,by omega⟩
    have ei:(((i+1:Nat):Int)-1).toNat=i:=by omega
    have ei2:((((i+1:Nat):Int)-1)+(m:Int)-1).toNat=i+m-1:=by omega
    have r1:=hdr (N-(i+1)) (i+m-1)
    have b1:=mul_bounds hp2 r1 hi
    have hc:Int.tmod (dn p b m N F G (N-(i+1)) ((((i+1:Nat):Int)-1)+(m:Int)-1).toNat*b) p=dq p b m N F G i:=by
      rw[ei2,rem_eq b1.1];rfl
    conv=>whnf
    refine⟨i64 (by omega) (by omega),?_⟩
    conv=>whnf
    refine⟨i64 (by omega) (by omega),?_⟩
    conv=>whnf
    refine⟨by omega,?_⟩
    conv=>whnf
    refine⟨by show((i+1:Nat):Int)-1+(m:Int)-1<(n:Int);omega,?_⟩
    conv=>whnf
    refine⟨by show inR .i64 (dn p b m N F G (N-(i+1)) ((((i+1:Nat):Int)-1)+(m:Int)-1).toNat*b);rw[ei2];exact i64 (by omega) (by omega),?_⟩
    conv=>whnf
    refine⟨by omega,?_⟩
    conv=>whnf
    refine⟨by omega,?_⟩
    conv=>whnf
    refine⟨by show((i+1:Nat):Int)-1<(N:Int);omega,?_⟩
    conv=>whnf
    refine loop_ints (fun j:Nat=>ist [(0,.c (.int .i64 p)),(2,.c (il m G)),(6,.c (.gs 1 0)),(7,.c (.gs 0 0)),(8,.c (.int .i64 b)),(9,.c (.int .i64 (((i+1:Nat):Int)-1))),(10,.c (.int .i64 (dq p b m N F G i))),(59,.c (il m G)),(60,.c (.int .i64 m)),(61,.c (.int .i64 j))] [(3,n,dpart p (dq p b m N F G i) G (dn p b m N F G (N-(i+1))) i j),(3,N,fun x=>if i≤x then dq p b m N F G x else 0)]) (fun j=>m-j) (fun j=>j≤m) 0 rfl ?_ (Nat.zero_le _) fun j hj=>?_
    · refine Weak.ints [some 0,some 1] rfl ⟨⟨_,rfl,rfl,rfl,rfl,rfl,fun x hx=>congrArg (Cell.int .i64) dpart_zero.symm⟩,⟨_,rfl,rfl,rfl,rfl,rfl,fun x hx=>updI ?_⟩,trivial⟩ ⟨⟨_,rfl,rfl⟩,⟨_,_,rfl,rfl,fun _ _ _ _=>rfl⟩,⟨_,rfl,rfl,rfl⟩,⟨_,rfl,rfl,rfl⟩,⟨_,rfl,rfl⟩,⟨_,rfl,rfl⟩,⟨_,rfl,hc⟩,⟨_,_,rfl,rfl,fun _ _ _ _=>rfl⟩,⟨_,rfl,rfl⟩,⟨_,rfl,rfl⟩,trivial⟩
      show(if x=(((i+1:Nat):Int)-1).toNat then Int.tmod (dn p b m N F G (N-(i+1)) ((((i+1:Nat):Int)-1)+(m:Int)-1).toNat*b) p else if i+1≤x then dq p b m N F G x else 0)=if i≤x then dq p b m N F G x else 0
      rw[ei,hc]
      by_cases e:x=i
      · subst e;rw[if_pos rfl,if_pos (Nat.le_refl _)]
      · rw[if_neg e]
        by_cases e2:i+1≤x
        · rw[if_pos e2,if_pos (by omega)]
        · rw[if_neg e2,if_neg (by omega)]
    conv=>whnf
    refine bcase (fun(h':decide ((j:Int)<m)=true)=>?_) fun(h':decide ((j:Int)<m)=false)=>?_
    · have h':=of_decide_eq_true h'
      have eij:((((i+1:Nat):Int)-1)+(j:Int)).toNat=i+j:=by omega
      have c1:=hqr i
      have g1:=hG j
      have b2:0≤(p-dq p b m N F G i)*G j/\(p-dq p b m N F G i)*G j≤65521*65521:=⟨Int.mul_nonneg (by omega) g1.1,Int.mul_le_mul (by omega) (by omega) g1.1 (by omega)⟩
      have r2:=hdr (N-(i+1)) (i+j)
      have ed:dpart p (dq p b m N F G i) G (dn p b m N F G (N-(i+1))) i j (i+j)=dn p b m N F G (N-(i+1)) (i+j):=by
        unfold dpart;rw[if_neg (by omega)]
      conv=>whnf
      refine⟨by omega,?_⟩
      conv=>whnf
      refine⟨by omega,?_⟩
      conv=>whnf
      refine⟨i64 (by omega) (by omega),?_⟩
      conv=>whnf
      refine⟨i64 (by omega) (by omega),?_⟩
      conv=>whnf
      refine⟨by omega,?_⟩
      conv=>whnf
      refine⟨by show((i+1:Nat):Int)-1+(j:Int)<(n:Int);omega,?_⟩
      conv=>whnf
      refine⟨i64 (by omega) (by omega),?_⟩
      conv=>whnf
      refine⟨by show inR .i64 ((p-dq p b m N F G i)*G j);exact i64 (by omega) (by omega),?_⟩
      conv=>whnf
      refine⟨by show inR .i64 (dpart p (dq p b m N F G i) G (dn p b m N F G (N-(i+1))) i j ((((i+1:Nat):Int)-1)+(j:Int)).toNat+(p-dq p b m N F G i)*G j);rw[eij,ed];exact i64 (by omega) (by omega),?_⟩
      conv=>whnf
      refine⟨by omega,?_⟩
      conv=>whnf
      refine⟨by omega,?_⟩
      conv=>whnf
      refine⟨by show((i+1:Nat):Int)-1+(j:Int)<(n:Int);omega,?_⟩
      conv=>whnf
      refine⟨i64 (by omega) (by omega),?_⟩
      conv=>whnf
      refine⟨j+1,by omega,?_,by omega⟩
      refine Weak.ints [some 0,some 1] rfl ⟨⟨_,rfl,rfl,rfl,rfl,rfl,fun x hx=>updI ?_⟩,⟨_,rfl,rfl,rfl,rfl,rfl,fun _ _=>rfl⟩,trivial⟩ ⟨⟨_,rfl,rfl⟩,⟨_,_,rfl,rfl,fun _ _ _ _=>rfl⟩,⟨_,rfl,rfl,rfl⟩,⟨_,rfl,rfl,rfl⟩,⟨_,rfl,rfl⟩,⟨_,rfl,rfl⟩,⟨_,rfl,rfl⟩,⟨_,_,rfl,rfl,fun _ _ _ _=>rfl⟩,⟨_,rfl,rfl⟩,⟨_,rfl,rfl⟩,trivial⟩
      show(if x=((((i+1:Nat):Int)-1)+(j:Int)).toNat then Int.tmod (dpart p (dq p b m N F G i) G (dn p b m N F G (N-(i+1))) i j ((((i+1:Nat):Int)-1)+(j:Int)).toNat+(p-dq p b m N F G i)*G j) p else dpart p (dq p b m N F G i) G (dn p b m N F G (N-(i+1))) i j x)=dpart p (dq p b m N F G i) G (dn p b m N F G (N-(i+1))) i (j+1) x
      rw[eij,ed,rem_eq (by omega)]
      exact dpart_step
    · have h':=of_decide_eq_false h'
      obtain rfl:j=m:=by omega
      conv=>whnf
      refine⟨i64 (by omega) (by omega),?_⟩
      conv=>whnf
      refine⟨i,by omega,?_,by omega⟩
      exact Weak.ints [some 0,some 1] rfl ⟨⟨_,rfl,rfl,rfl,rfl,rfl,fun x hx=>congrArg (Cell.int .i64) (congrFun (dn_step (by omega)).symm x)⟩,⟨_,rfl,rfl,rfl,rfl,rfl,fun _ _=>rfl⟩,trivial⟩ ⟨⟨_,rfl,rfl⟩,⟨_,_,rfl,rfl,fun _ _ _ _=>rfl⟩,⟨_,rfl,rfl,rfl⟩,⟨_,rfl,rfl,rfl⟩,⟨_,rfl,rfl⟩,⟨_,rfl,by omega⟩,trivial⟩
  · have h:=of_decide_eq_false h
    obtain rfl:k=0:=by omega
    conv=>whnf
    refine⟨fun _ _ _ _=>rfl,?_⟩
    conv=>whnf
    refine⟨_,trimmed_ok (n:=n) (a:=dn p b m N F G (N-0)) (by omega),?_⟩
    conv=>whnf
    refine⟨fun _ _ _ _=>rfl,?_⟩
    conv=>whnf
    exact⟨rfl,subT2 (subRow (a:=fun x=>if 0≤x then dq p b m N F G x else 0) (b:=dq p b m N F G) rfl fun x _=>if_pos (Nat.zero_le x)) (Sub.refl _)⟩
theorem divide_short {p:Int} {n m:Nat} {F G:Nat->Int} (hn:n≤4096) (hnm:n<m):FnOK Tryz.prog false 104 [.c (.int .i64 p),.c (il n F),.c (il m G)] (.t2 (.c .nil) (.c (il n F))):=by
  refine fn_ok (E:=E0) E0_ok Tryz.func104 rfl mixed (by kernel_rfl) (by kernel_rfl) ?_
  conv=>whnf
  refine .inr ?_
  conv=>whnf
  refine⟨_,clone_ok (by omega),?_⟩
  conv=>whnf
  refine bpos (show decide ((n:Int)<m)=true by simp;omega) ?_
  conv=>whnf
  exact⟨rfl,Sub.refl _⟩
end Fp
end Go.Proofs.YtibaocbpeaejkaaGreat
/- The reference's quotients and remainders. -/
namespace Go.Proofs.YtibaocbpeaejkaaGreat
open Go.RowKit
namespace Fp
end Fp
end Go.Proofs.YtibaocbpeaejkaaGreat
/- The exported functions: quotients with remainders, products; the sizes that the statements look at. -/
namespace Go.Proofs.YtibaocbpeaejkaaGreat
open Go.RowKit
namespace Fp
theorem nf_range {p:Int} {n:Nat} {a:Nat->Int} (hp:0<p) (i:Nat):0≤nf p n a i/\nf p n a i<p:=by
 unfold nf
 split
 ·exact⟨Int.emod_nonneg _ (by omega),Int.emod_lt_of_pos _ hp⟩
 ·omega
theorem tl_behind {a : Nat → Int} : ∀ {n : Nat}, (∀ i, n ≤ i → a i = 0) → ∀ i, tl a n ≤ i → a i = 0
 | 0,h=>fun i _=>h i (Nat.zero_le i)
 | n+1,h=>fun i hi=>by
  unfold tl at hi
  by_cases e:a n=0
  ·rw[if_pos e]at hi
   refine tl_behind (n:=n) (fun j hj=>?_) i hi
   rcases Nat.lt_or_ge n j with h1 | h1
   ·exact h j h1
   ·rw[show j=n by omega];exact e
  ·rw[if_neg e]at hi
   exact h i hi
theorem tl_last {a : Nat → Int} : ∀ {n : Nat}, 0 < tl a n → a (tl a n - 1) ≠ 0
 | 0,h=>absurd h (Nat.lt_irrefl 0)
 | n+1,h=>by
  unfold tl at h ⊢
  by_cases e:a n=0
  ·rw[if_pos e]at h ⊢
   exact tl_last h
  ·rw[if_neg e]
   exact e
theorem nf_behind {p:Int} {n:Nat} {a:Nat->Int} (i:Nat) (hi:tl (nf p n a) n≤i):nf p n a i=0 :=
 tl_behind (fun j hj=>by unfold nf;rw[if_neg (by omega)]) i hi
theorem sub_ok {P:Program} {r:Bool} {f:FuncId} {args:List V} {X Y:V} (h:FnOK P r f args X) (hs:Sub X Y):FnOK P r f args Y :=
 ⟨h.1,fun D w vs h1 h2 h3=>(h.2 D w vs h1 h2 h3).mono fun _ _ ⟨v,hv,hx,hb⟩=>⟨v,hv,hs _ _ _ hx,hb⟩⟩
theorem divide_all {p:Int} {n m:Nat} {F G:Nat->Int} (hp:md p) (hn:n≤4096) (h0:0<m) (hF:∀ i,0≤F i/\F i<p) (hG:∀ i,0≤G i/\G i<p) (hl:G (m-1)≠0) (ht:tl F n=n):FnOK Tryz.prog false 104 [.c (.int .i64 p),.c (il n F),.c (il m G)] (.t2 (.c (il (n+1-m) (dq p (inv (G (m-1)) p) m (n+1-m) F G))) (.c (il (tl (dn p (inv (G (m-1)) p) m (n+1-m) F G (n+1-m)) n) (dn p (inv (G (m-1)) p) m (n+1-m) F G (n+1-m))))):=by
 rcases Nat.lt_or_ge n m with h | h
 ·refine sub_ok (divide_short (p:=p) (F:=F) (G:=G) hn h) ?_
  rw[show n+1-m=0 by omega]
  exact subT2 (subNil rfl) (subRow ht.symm fun _ _=>rfl)
 ·exact divide_ok hp hn h0 h hF hG hl
end Fp
end Go.Proofs.YtibaocbpeaejkaaGreat
/- Plain laws of quotients modulo a prime: a product leaves no remainder. -/
namespace Go.Proofs.YtibaocbpeaejkaaGreat
namespace Fp
theorem cv_top {F G : Nat → Int} {m : Nat} (hG : ∀ j, m ≤ j → G j = 0) : ∀ {i k : Nat}, i + m ≤ k + 1 → cv F G i k = 0
 | 0,_,_=>rfl
 | i+1,k,h=>by
  show cv F G i k+(if i≤k then F i*G (k-i)else 0)=0
  rw[cv_top hG (by omega),hG (k-i) (by omega),Int.mul_zero]
  simp
theorem dq_lead {p b:Int} {n m:Nat} {F G:Nat->Int} (hm:0<m) (hmn:m≤n) (hF:∀ i,0≤F i/\F i<p) (hl:F (n-1)≠0) (hb:(b*G (m-1))%p=1):dq p b m (n+1-m) F G (n-m)≠0:=by
 unfold dq
 rw[show n+1-m-(n-m+1)=0 by omega,show n-m+m-1=n-1 by omega]
 show(F (n-1)*b)%p≠0
 intro h
 have e2:F (n-1)*(b*G (m-1))=F (n-1)*b*G (m-1):=by grind
 have e3:(F (n-1)*(b*G (m-1)))%p=0:=by rw[e2,Int.mul_emod,h,Int.zero_mul,Int.zero_emod]
 rw[Int.mul_emod,hb,Int.mul_one,Int.emod_emod,Int.emod_eq_of_lt (hF _).1 (hF _).2]at e3
 exact hl e3
theorem tl_full {a:Nat->Int} {n:Nat} (h:0<n->a (n-1)≠0):tl a n=n:=by
 cases n with
 | zero=>rfl
 | succ n =>
  have h:¬ a n=0:=h (by omega)
  unfold tl;rw[if_neg h]
theorem tl_tl (a:Nat->Int) (n:Nat):tl a (tl a n)=tl a n:=tl_full fun h=>tl_last h
theorem inv_spec {c p:Int} (hp:md p) (hc:0<c%p):(inv c p*c)%p=1:=by
 -- Euclid's algorithm ends
 have key:∀(k:Nat) (g r u v:Int),r.toNat=k->Eu (c%p) p g r u v->(inv c p*c)%p=1:=by
  intro k
  induction k using Nat.strongRecOn with
  | ind k ih =>
   intro g r u v hk h
   rcases Int.lt_or_le 0 r with h1 | h1
   ·obtain⟨s1,_,_,s4⟩:=h.step h1
    exact ih _ (by omega) _ _ _ _ rfl s1
   ·have h0:=h.r0
    obtain rfl:r=0:=by omega
    exact(h.inv hc (by have:=hp.1;omega) hp.2.2).2.2
 exact key _ _ _ _ _ rfl (Eu.start hc (Int.emod_lt_of_pos c (by have:=hp.1;omega)))
end Fp
end Go.Proofs.YtibaocbpeaejkaaGreat
/- Sums of lists modulo a prime. -/
namespace Go.Proofs.YtibaocbpeaejkaaGreat
open Go.RowKit
namespace Fp
set_option maxHeartbeats 4000000 in
theorem at_ok {n i:Nat} {a:Nat->Int} (ha:∀ j,n≤j->a j=0):FnOK Tryz.prog false 172 [.c (il n a),.c (.int .i64 i)] (.c (.int .i64 (a i))):=by
 refine fn_ok (E:=E0) E0_ok Tryz.func172 rfl mixed (by kernel_rfl) (by kernel_rfl) ?_
 conv=>whnf
 refine bcase (fun(h:decide ((i:Int)<n)=true)=>?_) fun(h:decide ((i:Int)<n)=false)=>?_
 ·have h:=of_decide_eq_true h
  conv=>whnf
  refine⟨by omega,?_⟩
  conv=>whnf
  refine⟨by omega,?_⟩
  conv=>whnf
  exact⟨rfl,Sub.refl _⟩
 ·have h:=of_decide_eq_false h
  conv=>whnf
  exact⟨rfl,subI (ha i (by omega)).symm⟩
def sm (p b:Int) (F G:Nat->Int) (i:Nat):Int:=(F i+b*G i)%p
set_option maxHeartbeats 4000000 in
theorem combine_ok {p b:Int} {n m:Nat} {F G:Nat->Int} (hp:2≤p) (hp2:p≤65521) (hb:0≤b/\b<p) (hn:n≤4096) (hm:m≤4096) (hF:∀ i,0≤F i/\F i<p) (hG:∀ i,0≤G i/\G i<p) (hFz:∀ j,n≤j->F j=0) (hGz:∀ j,m≤j->G j=0):FnOK Tryz.prog false 132 [.c (.int .i64 p),.c (il n F),.c (il m G),.c (.int .i64 b)] (.c (il (tl (sm p b F G) (max n m)) (sm p b F G))):=by
 refine fn_ok (E:=E0) E0_ok Tryz.func132 rfl mixed (by kernel_rfl) (by kernel_rfl) ?_
 have eK:(if(m:Int) > (n:Int)then(m:Int)else(n:Int))=((max n m:Nat):Int):=by split <;> omega
 have hK:max n m≤4096:=by omega
 have hnK:n≤max n m:=by omega
 have hmK:m≤max n m:=by omega
 generalize max n m=K at *
 conv=>whnf
 refine⟨by rw[eK];omega,by rw[eK];omega,by rw[eK];omega,by show((8:Nat):Int)*(if(m:Int) > (n:Int)then(m:Int)else(n:Int))≤_;rw[eK];omega,?_⟩
 conv=>whnf
 refine loop_ints (fun i:Nat=>ist [(0,.c (.int .i64 p)),(1,.c (il n F)),(2,.c (il m G)),(3,.c (.int .i64 b)),(9,.c (.gs 0 0)),(18,.c (.int .i64 K)),(19,.c (.int .i64 i))] [(3,K,fun x=>if x<i then sm p b F G x else 0)]) (fun i=>K-i) (fun i=>i≤K) 0 rfl ?_ (Nat.zero_le _) fun i hi=>?_
 ·refine Weak.ints [some 0] rfl ⟨⟨_,rfl,rfl,rfl,?_,rfl,fun x hx=>?_⟩,trivial⟩ ⟨⟨_,rfl,rfl⟩,⟨_,_,rfl,rfl,fun _ _ _ _=>rfl⟩,⟨_,_,rfl,rfl,fun _ _ _ _=>rfl⟩,⟨_,rfl,rfl⟩,⟨_,rfl,rfl,rfl⟩,⟨_,rfl,?_⟩,⟨_,rfl,rfl⟩,trivial⟩
  ·show(if(m:Int) > (n:Int)then(m:Int)else(n:Int)).toNat=K
   rw[eK];rfl
  ·exact congrArg (Cell.int .i64) (show(0:Int)=if x<0 then sm p b F G x else 0 by rw[if_neg (Nat.not_lt_zero x)])
  ·show(((if(m:Int) > (n:Int)then(m:Int)else(n:Int)).toNat:Nat):Int)=(K:Int)
   rw[eK];rfl
 conv=>whnf
 refine bcase (fun(h:decide ((i:Int)<K)=true)=>?_) fun(h:decide ((i:Int)<K)=false)=>?_
 ·have h:=of_decide_eq_true h
  have f1:=hF i
  have b1:=mul_bounds hp2 hb (hG i)
  conv=>whnf
  refine⟨_,at_ok (i:=i) hFz,?_⟩
  conv=>whnf
  refine⟨_,at_ok (i:=i) hGz,?_⟩
  conv=>whnf
  refine⟨i64 (by omega) (by omega),?_⟩
  conv=>whnf
  refine⟨i64 (by omega) (by omega),?_⟩
  conv=>whnf
  refine⟨by omega,?_⟩
  conv=>whnf
  refine⟨by omega,?_⟩
  conv=>whnf
  refine⟨by show(i:Int)<(K:Int);omega,?_⟩
  conv=>whnf
  refine⟨i64 (by omega) (by omega),?_⟩
  conv=>whnf
  refine⟨i+1,by omega,?_,by omega⟩
  refine Weak.ints [some 0] rfl ⟨⟨_,rfl,rfl,rfl,rfl,rfl,fun x hx=>updI ?_⟩,trivial⟩ ⟨⟨_,rfl,rfl⟩,⟨_,_,rfl,rfl,fun _ _ _ _=>rfl⟩,⟨_,_,rfl,rfl,fun _ _ _ _=>rfl⟩,⟨_,rfl,rfl⟩,⟨_,rfl,rfl,rfl⟩,⟨_,rfl,rfl⟩,⟨_,rfl,rfl⟩,trivial⟩
  show(if x=i then Int.tmod (F i+b*G i) p else if x<i then sm p b F G x else 0)=if x<i+1 then sm p b F G x else 0
  rw[rem_eq (by omega)]
  by_cases e:x=i
  ·subst e;rw[if_pos rfl,if_pos (by omega)];rfl
  ·rw[if_neg e]
   by_cases e2:x<i
   ·rw[if_pos e2,if_pos (by omega)]
   ·rw[if_neg e2,if_neg (by omega)]
 ·have h:=of_decide_eq_false h
  obtain rfl:i=K:=by omega
  conv=>whnf
  refine⟨fun _ _ _ _=>rfl,?_⟩
  conv=>whnf
  refine⟨_,trimmed_ok (n:=i) (a:=fun x=>if x<i then sm p b F G x else 0) (by omega),?_⟩
  conv=>whnf
  have e:∀ x,x<i->(if x<i then sm p b F G x else 0)=sm p b F G x:=fun x hx=>if_pos hx
  exact⟨rfl,subRow (a:=fun x=>if x<i then sm p b F G x else 0) (b:=sm p b F G) (tl_congr e) fun x hx=>e x (by have:=tl_le (sm p b F G) i;omega)⟩
theorem sm_behind {p b:Int} {n m:Nat} {F G:Nat->Int} (hFz:∀ j,n≤j->F j=0) (hGz:∀ j,m≤j->G j=0) (i:Nat) (h:max n m≤i):sm p b F G i=0:=by
 unfold sm
 rw[hFz i (by omega),hGz i (by omega),Int.mul_zero,Int.add_zero,Int.zero_emod]
end Fp
end Go.Proofs.YtibaocbpeaejkaaGreat
/- Multiples and products in the reference. -/
namespace Go.Proofs.YtibaocbpeaejkaaGreat
open Go.RowKit
namespace Fp
def sc (p k:Int) (F:Nat->Int) (i:Nat):Int:=(k%p*F i)%p
end Fp
end Go.Proofs.YtibaocbpeaejkaaGreat
/- Differences, multiples, monic polynomials. -/
namespace Go.Proofs.YtibaocbpeaejkaaGreat
open Go.RowKit
namespace Fp
theorem arg_ok {P:Program} {r:Bool} {f:FuncId} {args args':List V} {X:V} (h:FnOK P r f args X) (hs:∀ D w vs,VRels D w [] args' vs->VRels D w [] args vs):FnOK P r f args' X :=
 ⟨h.1,fun D w vs h1 h2 h3=>h.2 D w vs h1 h2 (hs _ _ _ h3)⟩
theorem tl_more {a : Nat → Int} {k : Nat} (h : ∀ i, k ≤ i → a i = 0) : ∀ {k' : Nat}, k ≤ k' → tl a k' = tl a k
 | 0,hk=>by rw[show k=0 by omega]
 | k'+1,hk=>by
  rcases Nat.lt_or_ge k' k with h1 | h1
  ·rw[show k=k'+1 by omega]
  ·rw[← tl_more h h1]
   show(if a k'=0 then tl a k' else k'+1)=_
   rw[if_pos (h k' h1)]
theorem nf_self {p:Int} {n:Nat} {F:Nat->Int} (hF:∀ i,0≤F i/\F i<p) (hFz:∀ j,n≤j->F j=0):nf p n F=F:=by
 funext i
 unfold nf
 by_cases h:i<n
 ·rw[if_pos h,Int.emod_eq_of_lt (hF i).1 (hF i).2]
 ·rw[if_neg h,hFz i (by omega)]
theorem sc_range {p k:Int} {F:Nat->Int} (hp:0<p) (i:Nat):0≤sc p k F i/\sc p k F i<p:=⟨Int.emod_nonneg _ (by omega),Int.emod_lt_of_pos _ hp⟩
theorem sc_behind {p k:Int} {n:Nat} {F:Nat->Int} (hFz:∀ j,n≤j->F j=0) (j:Nat) (h:n≤j):sc p k F j=0:=by
 unfold sc;rw[hFz j h,Int.mul_zero,Int.zero_emod]
set_option maxHeartbeats 4000000 in
theorem scale_ok {p b:Int} {m:Nat} {G:Nat->Int} (hp:2≤p) (hp2:p≤65521) (hb:0≤b/\b<p) (hm:m≤4096) (hG:∀ i,0≤G i/\G i<p) (hGz:∀ j,m≤j->G j=0):FnOK Tryz.prog false 107 [.c (.int .i64 p),.c (il m G),.c (.int .i64 b)] (.c (il (tl (sc p b G) m) (sc p b G))):=by
 have e:sm p b (fun _=>0) G=sc p b G:=by
  funext i;unfold sm sc;rw[Int.zero_add,Int.emod_eq_of_lt hb.1 hb.2]
 have hc:=combine_ok (p:=p) (b:=b) (n:=0) (m:=m) (F:=fun _=>0) (G:=G) hp hp2 hb (by omega) hm (fun _=>⟨Int.le_refl _,by omega⟩) hG (fun _ _=>rfl) hGz
 rw[e,Nat.zero_max]at hc
 have hc':FnOK Tryz.prog false 132 [.c (.int .i64 p),.c .nil,.c (il m G),.c (.int .i64 b)] (.c (il (tl (sc p b G) m) (sc p b G))) :=
  arg_ok hc fun D w vs h=>match vs,h with
   | _ :: _ :: _,⟨x,y,z⟩=>⟨x,subNil rfl D w _ y,z⟩
 refine fn_ok (E:=E0) E0_ok Tryz.func107 rfl mixed (by kernel_rfl) (by kernel_rfl) ?_
 conv=>whnf
 refine⟨_,hc',?_⟩
 conv=>whnf
 exact⟨rfl,Sub.refl _⟩
set_option maxHeartbeats 4000000 in
theorem monic_ok {p:Int} {n:Nat} {F:Nat->Int} (hp:md p) (hn:n≤4096) (hF:∀ i,0≤F i/\F i<p) (hFz:∀ j,n≤j->F j=0) (hl:0<n->F (n-1)≠0):FnOK Tryz.prog false 61 [.c (.int .i64 p),.c (il n F)] (.c (il (tl (sc p (inv (F (n-1)) p) F) n) (sc p (inv (F (n-1)) p) F))):=by
 have hp0:0<p:=by have:=hp.1;omega
 have hs:=scale_ok (p:=p) (b:=inv (F (n-1)) p) (m:=n) (G:=F) hp.1 hp.2.1 (inv_range hp0) hn hF hFz
 refine fn_ok (E:=E0) E0_ok Tryz.func61 rfl mixed (by kernel_rfl) (by kernel_rfl) ?_
 conv=>whnf
 refine bcase (fun(h:decide ((n:Int)=0)=true)=>?_) fun(h:decide ((n:Int)=0)=false)=>?_
 ·have h:=of_decide_eq_true h
  obtain rfl:n=0:=by omega
  conv=>whnf
  exact⟨rfl,subNil rfl⟩
 ·have h:=of_decide_eq_false h
  have em:((n:Int)-1).toNat=n-1:=by omega
  have hinv:=inverse_ok (c:=F (n-1)) hp (by
   rw[Int.emod_eq_of_lt (hF _).1 (hF _).2]
   have:=(hF (n-1)).1
   have:=hl (by omega)
   omega)
  conv=>whnf
  refine⟨i64 (by omega) (by omega),?_⟩
  conv=>whnf
  refine⟨by omega,?_⟩
  conv=>whnf
  refine⟨by omega,?_⟩
  conv=>whnf
  refine⟨_,(show FnOK Tryz.prog false 108 [.c (.int .i64 (F ((n:Int)-1).toNat)),.c (.int .i64 p)] (.c (.int .i64 (inv (F (n-1)) p)))by rw[em];exact hinv),?_⟩
  conv=>whnf
  refine⟨_,hs,?_⟩
  conv=>whnf
  exact⟨rfl,Sub.refl _⟩
end Fp
end Go.Proofs.YtibaocbpeaejkaaGreat
/- Greatest common divisors. -/
namespace Go.Proofs.YtibaocbpeaejkaaGreat
open Go.RowKit
namespace Fp
theorem dn_top {p b : Int} {m N : Nat} {F G : Nat → Int} (hm : 0 < m) (hb : (b * G (m - 1)) % p = 1) (hFz : ∀ j, N + m - 1 ≤ j → F j = 0) : ∀ {t : Nat}, t ≤ N → ∀ k, N - t + m - 1 ≤ k → dn p b m N F G t k = 0
 | 0,_,k,hk=>hFz k (by omega)
 | t+1,ht,k,hk=>by
  have ih:=fun k=>dn_top (p:=p) (b:=b) (F:=F) (G:=G) hm hb hFz (show t≤N by omega) k
  show dpart p ((dn p b m N F G t (N-1-t+m-1)*b)%p) G (dn p b m N F G t) (N-1-t) m k=0
  unfold dpart
  by_cases h:N-1-t≤k/\k<N-1-t+m
  ·rw[if_pos h]
   have e:k=N-1-t+m-1:=by omega
   rw[← e]
   generalize dn p b m N F G t k=r
   have e2:k-(N-1-t)=m-1:=by omega
   rw[e2]
   have e3:=Int.mul_ediv_add_emod (r*b) p
   have e4:=Int.mul_ediv_add_emod (b*G (m-1)) p
   rw[hb]at e4
   generalize (r*b)%p=c at e3 ⊢
   generalize r*b / p=x at e3
   generalize b*G (m-1) / p=y at e4
   have e5:r-c*G (m-1)=p*(x*G (m-1)-r*y):=by grind
   rw[e5]
   exact Int.mul_emod_right _ _
  ·rw[if_neg h]
   exact ih k (by omega)
noncomputable def rs (p:Int) (n m:Nat) (F G:Nat->Int):Nat->Int:=dn p (inv (G (m-1)) p) m (n+1-m) F G (n+1-m)
theorem rs_range {p:Int} {n m:Nat} {F G:Nat->Int} (hp:0<p) (hF:∀ i,0≤F i/\F i<p) (i:Nat):0≤rs p n m F G i/\rs p n m F G i<p:=dn_range hp hF _ _
theorem rs_behind {p:Int} {n m:Nat} {F G:Nat->Int} (hp:md p) (hm:0<m) (hG:∀ i,0≤G i/\G i<p) (hl:G (m-1)≠0) (hFz:∀ j,n≤j->F j=0) (j:Nat) (hj:min n (m-1)≤j):rs p n m F G j=0:=by
 unfold rs
 rcases Nat.lt_or_ge n m with h | h
 ·rw[show n+1-m=0 by omega]
  exact hFz j (by omega)
 ·refine dn_top hm (inv_spec hp ?_) (fun k hk=>hFz k (by omega)) (Nat.le_refl _) j (by omega)
  rw[Int.emod_eq_of_lt (hG _).1 (hG _).2]
  have:=(hG (m-1)).1
  omega
noncomputable def gc (p : Int) : Nat → Nat → (Nat → Int) → Nat → (Nat → Int) → Nat × (Nat → Int)
 | 0,n,F,_,_=>(n,F)
 | t+1,n,F,m,G=>if m=0 then(n,F)else gc p t m G (tl (rs p n m F G) n) (rs p n m F G)
theorem gc_zero {p : Int} {n : Nat} {F G : Nat → Int} : ∀ t, gc p t n F 0 G = (n, F)
 | 0=>rfl
 | _+1=>if_pos rfl
structure Nm (p : Int) (n : Nat) (F : Nat → Int) : Prop where
 n4:n≤4096
 r:∀ i,0≤F i/\F i<p
 z:∀ j,n≤j->F j=0
 t:tl F n=n
theorem Nm.l {p:Int} {n:Nat} {F:Nat->Int} (h:Nm p n F) (h0:0<n):F (n-1)≠0:=by
 have h2:0<tl F n:=by rw[h.t];exact h0
 have:=tl_last h2
 rw[h.t]at this
 exact this
theorem Nm.rest {p:Int} {n m:Nat} {F G:Nat->Int} (hp:md p) (h:Nm p n F) (g:Nm p m G) (hm:0<m):Nm p (tl (rs p n m F G) n) (rs p n m F G)/\tl (rs p n m F G) n<m:=by
 have hb:=rs_behind (n:=n) hp hm g.r (g.l hm) h.z
 have hle:tl (rs p n m F G) n≤min n (m-1):=by
  rw[tl_more hb (show min n (m-1)≤n by omega)]
  exact tl_le _ _
 have:=h.n4
 exact⟨⟨by omega,rs_range (by have:=hp.1;omega) h.r,tl_behind fun i hi=>hb i (by omega),tl_tl _ _⟩,by omega⟩
noncomputable def mo (p:Int) (x:Nat × (Nat->Int)):Nat->Int:=sc p (inv (x.2 (x.1-1)) p) x.2
set_option maxHeartbeats 4000000 in
theorem gcd_ok {p:Int} {n m:Nat} {F G:Nat->Int} (hp:md p) (hF:Nm p n F) (hG:Nm p m G):FnOK Tryz.prog false 103 [.c (.int .i64 p),.c (il n F),.c (il m G)] (.c (il (tl (mo p (gc p m n F m G)) (gc p m n F m G).1) (mo p (gc p m n F m G)))):=by
 refine fn_ok (E:=E0) E0_ok Tryz.func103 rfl mixed (by kernel_rfl) (by kernel_rfl) ?_
 conv=>whnf
 refine loop_ints (fun((_,n,F,m,G):Nat × Nat × (Nat->Int) × Nat × (Nat->Int))=>ist [(0,.c (.int .i64 p)),(1,.c (il n F)),(2,.c (il m G))] []) (fun(_,_,_,m,_)=>m) (fun(t,n',F',m',G')=>Nm p n' F'/\Nm p m' G'/\m'≤t/\gc p t n' F' m' G'=gc p m n F m G) (m,n,F,m,G) rfl ?_ ⟨hF,hG,Nat.le_refl _,rfl⟩ ?_
 ·exact Weak.ints [] rfl trivial ⟨⟨_,rfl,rfl⟩,⟨_,_,rfl,rfl,fun _ _ _ _=>rfl⟩,⟨_,_,rfl,rfl,fun _ _ _ _=>rfl⟩,trivial⟩
 rintro ⟨t,n',F',m',G'⟩ hI
 obtain⟨h1,h2,h3,h4⟩:Nm p n' F'/\Nm p m' G'/\m'≤t/\gc p t n' F' m' G'=gc p m n F m G:=hI
 conv=>whnf
 refine bcase (fun(h:decide ((0:Int)<m')=true)=>?_) fun(h:decide ((0:Int)<m')=false)=>?_
 ·have h:=of_decide_eq_true h
  obtain⟨h5,h6⟩:=h1.rest hp h2 (show 0<m' by omega)
  obtain⟨t,rfl⟩:∃ t',t=t'+1:=⟨t-1,by omega⟩
  conv=>whnf
  refine⟨_,divide_all hp h1.n4 (by omega) h1.r h2.r (h2.l (by omega)) h1.t,?_⟩
  conv=>whnf
  refine⟨(t,m',G',tl (rs p n' m' F' G') n',rs p n' m' F' G'),h6,Weak.ints [] rfl trivial ⟨⟨_,rfl,rfl⟩,⟨_,_,rfl,rfl,fun _ _ _ _=>rfl⟩,⟨_,_,rfl,rfl,fun _ _ _ _=>rfl⟩,trivial⟩,h2,h5,?_,?_⟩
  ·show tl (rs p n' m' F' G') n'≤t
   omega
  ·rw[← h4]
   show _=if m'=0 then(n',F')else _
   rw[if_neg (by omega)]
 ·have h:=of_decide_eq_false h
  obtain rfl:m'=0:=by omega
  rw[gc_zero]at h4
  rw[← h4]
  conv=>whnf
  refine⟨_,monic_ok hp h1.n4 h1.r h1.z h1.l,?_⟩
  conv=>whnf
  exact⟨rfl,Sub.refl _⟩
theorem Nm.nf {p:Int} {n:Nat} {a:Nat->Int} (hp:0<p) (hn:n≤4096):Nm p (tl (nf p n a) n) (nf p n a) :=
 ⟨by have:=tl_le (Fp.nf p n a) n;omega,nf_range hp,nf_behind,tl_tl _ _⟩
end Fp
end Go.Proofs.YtibaocbpeaejkaaGreat
/- Derivatives; the exported sums and differences. -/
namespace Go.Proofs.YtibaocbpeaejkaaGreat
open Go.RowKit
namespace Fp
def dv (p:Int) (F:Nat->Int) (i:Nat):Int:=(((i+1:Nat):Int)%p*F (i+1))%p
set_option maxHeartbeats 4000000 in
theorem derivative_ok {p:Int} {n:Nat} {F:Nat->Int} (hp:2≤p) (hp2:p≤65521) (hn:n≤4096) (hF:∀ i,0≤F i/\F i<p):FnOK Tryz.prog false 101 [.c (.int .i64 p),.c (il n F)] (.c (il (tl (dv p F) (n-1)) (dv p F))):=by
  refine fn_ok (E:=E0) E0_ok Tryz.func101 rfl mixed (by kernel_rfl) (by kernel_rfl) ?_
  conv=>whnf
  refine loop_ints (fun k:Nat=>ist [(0,.c (.int .i64 p)),(1,.c (il n F)),(5,.c (.gs 0 0)),(6,.c (.int .i64 ((k+1:Nat):Int)))] [(3,k,dv p F)]) (fun k=>n-k) (fun k=>k≤n-1) 0 rfl ?_ (Nat.zero_le _) fun k hk=>?_
  · exact Weak.ints [none] rfl ⟨rfl,trivial⟩ ⟨⟨_,rfl,rfl⟩,⟨_,_,rfl,rfl,fun _ _ _ _=>rfl⟩,rfl,⟨_,rfl,rfl⟩,trivial⟩
  have hr:0≤((k+1:Nat):Int)%p/\((k+1:Nat):Int)%p<p:=⟨Int.emod_nonneg _ (by omega),Int.emod_lt_of_pos _ (by omega)⟩
  have b1:=mul_bounds hp2 hr (hF (k+1))
  have e1:Int.tmod ((k+1:Nat):Int) p=((k+1:Nat):Int)%p:=rem_eq (by omega)
  have e2:Int.tmod (Int.tmod ((k+1:Nat):Int) p*F (k+1)) p=dv p F k:=by rw[e1,rem_eq b1.1];rfl
  conv=>whnf
  refine bcase (fun(h:decide (((k+1:Nat):Int)<n)=true)=>?_) fun(h:decide (((k+1:Nat):Int)<n)=false)=>?_
  · have h:=of_decide_eq_true h
    conv=>whnf
    refine⟨by omega,?_⟩
    conv=>whnf
    refine⟨by omega,?_⟩
    conv=>whnf
    refine⟨by omega,?_⟩
    conv=>whnf
    refine⟨by show inR .i64 (Int.tmod ((k+1:Nat):Int) p*F (k+1));rw[e1];exact i64 (by omega) (by omega),?_⟩
    conv=>whnf
    refine⟨by omega,?_⟩
    conv=>whnf
    refine .inr ?_
    conv=>whnf
    refine⟨rfl,?_⟩
    conv=>whnf
    refine⟨by show k+1≤16777216;omega,fun x y hx hy=>?_,?_⟩
    · obtain rfl : x = 0 := by have h : x < 1 := hx
                               omega
      obtain rfl : y = 0 := by have h : y < 1 := hy
                               omega
      exact⟨rfl,fun h=>by cases h⟩
    conv=>whnf
    refine⟨i64 (by omega) (by omega),?_⟩
    conv=>whnf
    refine⟨k+1,by omega,?_,by omega⟩
    refine Weak.ints [some 0] rfl ⟨⟨_,rfl,rfl,rfl,rfl,rfl,fun j hj=>appI ?_ (show k+1≤k+1 from Nat.le_refl _) hj⟩,trivial⟩ ⟨⟨_,rfl,rfl⟩,⟨_,_,rfl,rfl,fun _ _ _ _=>rfl⟩,⟨_,rfl,rfl,rfl⟩,⟨_,rfl,rfl⟩,trivial⟩
    show(if j=k then Int.tmod (Int.tmod ((k+1:Nat):Int) p*F (k+1)) p else dv p F j)=dv p F j
    by_cases e:j=k
    · subst e;rw[if_pos rfl,e2]
    · rw[if_neg e]
  · have h:=of_decide_eq_false h
    obtain rfl:k=n-1:=by omega
    conv=>whnf
    refine⟨fun _ _ _ _=>rfl,?_⟩
    conv=>whnf
    refine⟨_,trimmed_ok (n:=n-1) (a:=dv p F) (by omega),?_⟩
    conv=>whnf
    exact⟨rfl,Sub.refl _⟩
end Fp
end Go.Proofs.YtibaocbpeaejkaaGreat
/- Values of the reference; the exported sums, differences, derivatives. -/
namespace Go.Proofs.YtibaocbpeaejkaaGreat
open Go.RowKit
namespace Fp
def hv (p y : Int) (F : Nat → Int) (n : Nat) : Nat → Int
  | 0=>0
  | t+1=>(hv p y F n t*y+F (n-1-t))%p
end Fp
end Go.Proofs.YtibaocbpeaejkaaGreat
/- The equation of a division modulo a prime. -/
namespace Go.Proofs.YtibaocbpeaejkaaGreat
namespace Fp
theorem div_eq {p b : Int} {m N : Nat} {F G : Nat → Int} (hGz : ∀ j, m ≤ j → G j = 0) : ∀ {t : Nat}, t ≤ N → ∀ k, ∃ z, F k = dn p b m N F G t k + (cv (dq p b m N F G) G N k - cv (dq p b m N F G) G (N - t) k) + p * z
 | 0,_,k=>⟨0,by show F k=F k+_+_;rw[Nat.sub_zero,Int.sub_self,Int.mul_zero,Int.add_zero,Int.add_zero]⟩
 | t+1,ht,k=>by
  obtain⟨z,hz⟩:=div_eq (p:=p) (b:=b) (F:=F) hGz (show t≤N by omega) k
  have hs:=congrFun (dn_step (p:=p) (b:=b) (m:=m) (N:=N) (F:=F) (G:=G) (i:=N-(t+1)) (by omega)) k
  rw[show N-(N-(t+1))=t+1 by omega,show N-(N-(t+1)+1)=t by omega]at hs
  have hc:cv (dq p b m N F G) G (N-t) k=cv (dq p b m N F G) G (N-(t+1)) k+if N-(t+1)≤k then dq p b m N F G (N-(t+1))*G (k-(N-(t+1)))else 0:=by
   rw[show N-t=N-(t+1)+1 by omega]
   rfl
  rw[hc]at hz
  generalize cv (dq p b m N F G) G N k=A at *
  generalize cv (dq p b m N F G) G (N-(t+1)) k=B at *
  generalize dq p b m N F G (N-(t+1))=c at *
  generalize N-(t+1)=i at *
  unfold dpart at hs
  by_cases h1:i≤k
  ·rw[if_pos h1]at hz
   by_cases h2:k<i+m
   ·rw[if_pos ⟨h1,h2⟩]at hs
    have e:=Int.mul_ediv_add_emod (dn p b m N F G t k-c*G (k-i)) p
    rw[← hs]at e
    generalize (dn p b m N F G t k-c*G (k-i)) / p=y at e
    exact⟨z+y,by grind⟩
   ·rw[if_neg (by omega)]at hs
    rw[hGz (k-i) (by omega),Int.mul_zero]at hz
    exact⟨z,by rw[hs];omega⟩
  ·rw[if_neg h1]at hz
   rw[if_neg (by omega)]at hs
   exact⟨z,by rw[hs];omega⟩
theorem div_all {p b:Int} {m N:Nat} {F G:Nat->Int} (hF:∀ i,0≤F i/\F i<p) (hGz:∀ j,m≤j->G j=0) (k:Nat):(cv (dq p b m N F G) G N k+dn p b m N F G N k)%p=F k:=by
 obtain⟨z,hz⟩:=div_eq (p:=p) (b:=b) (F:=F) hGz (Nat.le_refl N) k
 rw[Nat.sub_self]at hz
 have e:cv (dq p b m N F G) G N k+dn p b m N F G N k=F k+p * -z:=by
  have:cv (dq p b m N F G) G 0 k=0:=rfl
  rw[this]at hz
  have e2:p * -z = -(p*z):=Int.mul_neg _ _
  omega
 rw[e,Int.add_mul_emod_self_left]
 exact Int.emod_eq_of_lt (hF k).1 (hF k).2
end Fp
end Go.Proofs.YtibaocbpeaejkaaGreat
/- Sums of products: whole, in either order, of sums. -/
namespace Go.Proofs.YtibaocbpeaejkaaGreat
namespace Fp
def su (f : Nat → Int) : Nat → Int
 | 0=>0
 | n+1=>su f n+f n
theorem su_congr {f g : Nat → Int} : ∀ {n : Nat}, (∀ i, i < n → f i = g i) → su f n = su g n
 | 0,_=>rfl
 | n+1,h=>by
  unfold su
  rw[su_congr fun i hi=>h i (by omega),h n (by omega)]
theorem su_add {f g : Nat → Int} : ∀ {n : Nat}, su (fun i => f i + g i) n = su f n + su g n
 | 0=>rfl
 | n+1=>by
  unfold su
  rw[su_add]
  omega
theorem su_mul {c : Int} {f : Nat → Int} : ∀ {n : Nat}, su (fun i => c * f i) n = c * su f n
 | 0=>(Int.mul_zero c).symm
 | n+1=>by
  unfold su
  rw[su_mul,Int.mul_add]
theorem su_zero {f : Nat → Int} : ∀ {n : Nat}, (∀ i, i < n → f i = 0) → su f n = 0
 | 0,_=>rfl
 | n+1,h=>by
  unfold su
  rw[su_zero fun i hi=>h i (by omega),h n (by omega)]
  rfl
theorem su_head {f : Nat → Int} : ∀ {n : Nat}, su f (n + 1) = f 0 + su (fun i => f (i + 1)) n
 | 0=>by show 0+f 0=f 0+0;omega
 | n+1=>by
  show su f (n+1)+f (n+1)=f 0+(su (fun i=>f (i+1)) n+f (n+1))
  rw[su_head]
  omega
theorem su_rev : ∀ {n : Nat} {f : Nat → Int}, su f n = su (fun i => f (n - 1 - i)) n
 | 0,_=>rfl
 | n+1,f=>by
  rw[su_head,su_rev (n:=n)]
  show f 0+su (fun i=>f (n-1-i+1)) n=su (fun i=>f (n+1-1-i)) n+f (n+1-1-n)
  rw[show n+1-1-n=0 by omega,su_congr (g:=fun i=>f (n+1-1-i)) fun i hi=>by
   show f (n-1-i+1)=f (n+1-1-i)
   rw[show n-1-i+1=n+1-1-i by omega]]
  omega
theorem su_more {f : Nat → Int} {n : Nat} (h : ∀ i, n ≤ i → f i = 0) : ∀ {m : Nat}, n ≤ m → su f m = su f n
 | 0,hm=>by rw[show n=0 by omega]
 | m+1,hm=>by
  rcases Nat.lt_or_ge m n with h1 | h1
  ·rw[show n=m+1 by omega]
  ·rw[← su_more h h1]
   show su f m+f m=su f m
   rw[h m h1,Int.add_zero]
theorem cv_su {F G : Nat → Int} {n : Nat} : ∀ {i : Nat}, cv F G i n = su (fun i => if i ≤ n then F i * G (n - i) else 0) i
 | 0=>rfl
 | i+1=>by
  show cv F G i n+_=_+_
  rw[cv_su]
def cf (F G:Nat->Int) (k:Nat):Int:=su (fun i=>F i*G (k-i)) (k+1)
theorem cv_cf {F G:Nat->Int} {n k:Nat} (hF:∀ j,n≤j->F j=0):cv F G n k=cf F G k:=by
 rw[cv_su]
 have e:cf F G k=su (fun i=>if i≤k then F i*G (k-i)else 0) (k+1):=su_congr fun i hi=>(if_pos (by omega)).symm
 rw[e]
 rcases Nat.lt_or_ge n (k+1)with h | h
 ·refine(su_more (fun i hi=>?_) (by omega)).symm
  show(if i≤k then F i*G (k-i)else 0)=0
  rw[hF i hi,Int.zero_mul]
  simp
 ·refine su_more (fun i hi=>?_) h
  exact if_neg (by omega)
theorem cf_comm (F G:Nat->Int) (k:Nat):cf F G k=cf G F k:=by
 unfold cf
 rw[su_rev]
 refine su_congr fun i hi=>?_
 rw[show k+1-1-i=k-i by omega,show k-(k-i)=i by omega,Int.mul_comm]
theorem cf_add (F G H:Nat->Int) (k:Nat):cf F (fun i=>G i+H i) k=cf F G k+cf F H k:=by
 unfold cf
 rw[← su_add]
 exact su_congr fun i _=>Int.mul_add _ _ _
theorem su_mod {p : Int} {f g : Nat → Int} : ∀ {n : Nat}, (∀ i, i < n → f i % p = g i % p) → su f n % p = su g n % p
 | 0,_=>rfl
 | n+1,h=>by
  unfold su
  rw[Int.add_emod,su_mod fun i hi=>h i (by omega),h n (by omega),← Int.add_emod]
theorem cf_mod {p:Int} {F F' G G':Nat->Int} (hF:∀ i,F i%p=F' i%p) (hG:∀ i,G i%p=G' i%p) (k:Nat):cf F G k%p=cf F' G' k%p :=
 su_mod fun i _=>by rw[Int.mul_emod,hF,hG,← Int.mul_emod]
theorem su_tri {f : Nat → Nat → Int} : ∀ {n : Nat}, su (fun i => su (fun j => f j (i - j)) (i + 1)) n = su (fun j => su (fun l => f j l) (n - j)) n
 | 0=>rfl
 | n+1=>by
  show su (fun i=>su (fun j=>f j (i-j)) (i+1)) n+su (fun j=>f j (n-j)) (n+1)=su (fun j=>su (fun l=>f j l) (n+1-j)) n+su (fun l=>f n l) (n+1-n)
  rw[su_tri,show n+1-n=0+1 by omega]
  have e:su (fun j=>su (fun l=>f j l) (n+1-j)) n=su (fun j=>su (fun l=>f j l) (n-j)+f j (n-j)) n:=su_congr fun j hj=>by
   show su (fun l=>f j l) (n+1-j)=_
   rw[show n+1-j=n-j+1 by omega]
   rfl
  rw[e,su_add]
  show _+(su (fun j=>f j (n-j)) n+f n (n-n))=_+(0+f n 0)
  rw[Nat.sub_self]
  omega
theorem cf_assoc (F G H:Nat->Int) (k:Nat):cf (fun i=>cf F G i) H k=cf F (fun i=>cf G H i) k:=by
 have e1:cf (fun i=>cf F G i) H k=su (fun i=>su (fun j=>F j*G (i-j)*H (k-(i-j)-j)) (i+1)) (k+1):=su_congr fun i hi=>by
  show su (fun j=>F j*G (i-j)) (i+1)*H (k-i)=_
  rw[Int.mul_comm,← su_mul]
  refine su_congr fun j hj=>?_
  show H (k-i)*(F j*G (i-j))=F j*G (i-j)*H (k-(i-j)-j)
  rw[show k-(i-j)-j=k-i by omega,Int.mul_comm]
 have e2:cf F (fun i=>cf G H i) k=su (fun j=>su (fun l=>F j*G l*H (k-l-j)) (k+1-j)) (k+1):=su_congr fun j hj=>by
  show F j*su (fun l=>G l*H (k-j-l)) (k-j+1)=_
  rw[← su_mul,show k-j+1=k+1-j by omega]
  refine su_congr fun l hl=>?_
  show F j*(G l*H (k-j-l))=F j*G l*H (k-l-j)
  rw[show k-j-l=k-l-j by omega,Int.mul_assoc]
 rw[e1,e2]
 exact su_tri (f:=fun j l=>F j*G l*H (k-l-j))
end Fp
end Go.Proofs.YtibaocbpeaejkaaGreat
/- Normal forms of products, sums, multiples, quotients. -/
namespace Go.Proofs.YtibaocbpeaejkaaGreat
namespace Fp
theorem Nm.mul {p:Int} {n m:Nat} {F G:Nat->Int} (hp:0<p) (hG:Nm p m G) (hs:n+m≤4096):Nm p (tl (pr p F G n) (n+m-1)) (pr p F G n) :=
 ⟨by have:=tl_le (pr p F G n) (n+m-1);omega,fun _=>⟨Int.emod_nonneg _ (by omega),Int.emod_lt_of_pos _ hp⟩,tl_behind fun i hi=>by
  unfold pr
  rw[cv_top hG.z (by omega),Int.zero_emod],tl_tl _ _⟩
theorem Nm.add {p b:Int} {n m:Nat} {F G:Nat->Int} (hp:0<p) (hF:Nm p n F) (hG:Nm p m G):Nm p (tl (sm p b F G) (max n m)) (sm p b F G) :=
 ⟨by have:=tl_le (sm p b F G) (max n m);have:=hF.n4;have:=hG.n4;omega,fun _=>⟨Int.emod_nonneg _ (by omega),Int.emod_lt_of_pos _ hp⟩,tl_behind (sm_behind hF.z hG.z),tl_tl _ _⟩
theorem Nm.sc {p k:Int} {n:Nat} {F:Nat->Int} (hp:0<p) (hF:Nm p n F):Nm p (tl (Fp.sc p k F) n) (Fp.sc p k F) :=
 ⟨by have:=tl_le (Fp.sc p k F) n;have:=hF.n4;omega,sc_range hp,tl_behind (sc_behind hF.z),tl_tl _ _⟩
noncomputable def qt (p:Int) (n m:Nat) (F G:Nat->Int) (i:Nat):Int:=if i<n+1-m then dq p (inv (G (m-1)) p) m (n+1-m) F G i else 0
theorem Nm.quo {p:Int} {n m:Nat} {F G:Nat->Int} (hp:md p) (hF:Nm p n F) (hG:Nm p m G) (hm:0<m):Nm p (n+1-m) (qt p n m F G):=by
 have hp0:0<p:=by have:=hp.1;omega
 have:=hF.n4
 refine⟨by omega,fun i=>?_,fun j hj=>?_,?_⟩
 ·unfold qt
  split
  ·exact dq_range hp0 i
  ·omega
 ·unfold qt;rw[if_neg (by omega)]
 ·refine tl_full fun h=>?_
  unfold qt
  rw[if_pos (by omega),show n+1-m-1=n-m by omega]
  refine dq_lead hm (by omega) hF.r (hF.l (by omega)) (inv_spec hp ?_)
  rw[Int.emod_eq_of_lt (hG.r _).1 (hG.r _).2]
  have:=(hG.r (m-1)).1
  have:=hG.l hm
  omega
theorem Nm.div {p:Int} {n m:Nat} {F G:Nat->Int} (hp:md p) (hF:Nm p n F) (hG:Nm p m G) (hm:0<m) (k:Nat):(cf (qt p n m F G) G k+rs p n m F G k)%p=F k:=by
 have h:=div_all (p:=p) (b:=inv (G (m-1)) p) (m:=m) (N:=n+1-m) (F:=F) (G:=G) hF.r hG.z k
 rw[← cv_cf (hF.quo hp hG hm).z]
 have e:∀(i:Nat),i≤n+1-m->cv (qt p n m F G) G i k=cv (dq p (inv (G (m-1)) p) m (n+1-m) F G) G i k:=by
  intro i
  induction i with
  | zero=>exact fun _=>rfl
  | succ i ih =>
   intro hi
   show cv _ G i k+_=cv _ G i k+_
   rw[ih (by omega)]
   rw[show qt p n m F G i=dq p (inv (G (m-1)) p) m (n+1-m) F G i by unfold qt;rw[if_pos (by omega)]]
 rw[e _ (Nat.le_refl _)]
 exact h
end Fp
end Go.Proofs.YtibaocbpeaejkaaGreat
/- A block of one's own that becomes a closed list. -/
namespace Go.Proofs.YtibaocbpeaejkaaGreat
open Go.RowKit
namespace Fp
theorem qt_eq {p:Int} {n m:Nat} {F G:Nat->Int} {i:Nat} (h:i<n+1-m):dq p (inv (G (m-1)) p) m (n+1-m) F G i=qt p n m F G i:=(if_pos h).symm
theorem divide_nm {p:Int} {n m:Nat} {F G:Nat->Int} (hp:md p) (hF:Nm p n F) (hG:Nm p m G) (hm:0<m):FnOK Tryz.prog false 104 [.c (.int .i64 p),.c (il n F),.c (il m G)] (.t2 (.c (il (n+1-m) (qt p n m F G))) (.c (il (tl (rs p n m F G) n) (rs p n m F G)))) :=
 sub_ok (divide_all hp hF.n4 hm hF.r hG.r (hG.l hm) hF.t) (subT2 (subRow rfl fun _ h=>qt_eq h) (Sub.refl _))
end Fp
end Go.Proofs.YtibaocbpeaejkaaGreat
/- Operations on lists in normal form, on both sides the same. -/
namespace Go.Proofs.YtibaocbpeaejkaaGreat
open Go.RowKit
namespace Fp
abbrev L:=Nat × (Nat->Int)
abbrev cl (x:L):V := .c (il x.1 x.2)
abbrev NL (p:Int) (x:L):Prop:=Nm p x.1 x.2
noncomputable abbrev mulL (p:Int) (x y:L):L:=(tl (pr p x.2 y.2 x.1) (x.1+y.1-1),pr p x.2 y.2 x.1)
noncomputable abbrev subL (p:Int) (x y:L):L:=(tl (sm p (p-1) x.2 y.2) (max x.1 y.1),sm p (p-1) x.2 y.2)
noncomputable abbrev addL (p:Int) (x y:L):L:=(tl (sm p 1 x.2 y.2) (max x.1 y.1),sm p 1 x.2 y.2)
noncomputable abbrev scL (p k:Int) (x:L):L:=(tl (sc p k x.2) x.1,sc p k x.2)
noncomputable abbrev quoL (p:Int) (x y:L):L:=(x.1+1-y.1,qt p x.1 y.1 x.2 y.2)
noncomputable abbrev rstL (p:Int) (x y:L):L:=(tl (rs p x.1 y.1 x.2 y.2) x.1,rs p x.1 y.1 x.2 y.2)
theorem NL.mul {p:Int} {x y:L} (hp:md p) (hy:NL p y) (hs:x.1+y.1≤4096):NL p (mulL p x y):=Nm.mul (by have:=hp.1;omega) hy hs
theorem NL.sub {p:Int} {x y:L} (hp:md p) (hx:NL p x) (hy:NL p y):NL p (subL p x y):=Nm.add (by have:=hp.1;omega) hx hy
theorem NL.add {p:Int} {x y:L} (hp:md p) (hx:NL p x) (hy:NL p y):NL p (addL p x y):=Nm.add (by have:=hp.1;omega) hx hy
theorem NL.sc {p k:Int} {x:L} (hp:md p) (hx:NL p x):NL p (scL p k x):=Nm.sc (by have:=hp.1;omega) hx
theorem NL.quo {p:Int} {x y:L} (hp:md p) (hx:NL p x) (hy:NL p y) (h0:0<y.1):NL p (quoL p x y):=Nm.quo hp hx hy h0
theorem NL.rst {p:Int} {x y:L} (hp:md p) (hx:NL p x) (hy:NL p y) (h0:0<y.1):NL p (rstL p x y)/\(rstL p x y).1<y.1:=Nm.rest hp hx hy h0
theorem NL.self {p:Int} {x:L} (hx:NL p x):Fp.nf p x.1 x.2=x.2:=nf_self hx.r hx.z
-- the program's side
theorem times_L {p:Int} {x y:L} (hp:md p) (hx:NL p x) (hy:NL p y) (h1:x.1≤1024) (h2:y.1≤1024):FnOK Tryz.prog false 69 [.c (.int .i64 p),cl x,cl y] (cl (mulL p x y)):=times_ok hp.1 hp.2.1 h1 h2 hx.r hy.r hy.z
theorem subs_L {p:Int} {x y:L} (hp:md p) (hx:NL p x) (hy:NL p y):FnOK Tryz.prog false 132 [.c (.int .i64 p),cl x,cl y,.c (.int .i64 (p-1))] (cl (subL p x y)):=combine_ok hp.1 hp.2.1 (by have:=hp.1;omega) hx.n4 hy.n4 hx.r hy.r hx.z hy.z
theorem adds_L {p:Int} {x y:L} (hp:md p) (hx:NL p x) (hy:NL p y):FnOK Tryz.prog false 132 [.c (.int .i64 p),cl x,cl y,.c (.int .i64 1)] (cl (addL p x y)):=combine_ok hp.1 hp.2.1 (by have:=hp.1;omega) hx.n4 hy.n4 hx.r hy.r hx.z hy.z
theorem divide_L {p:Int} {x y:L} (hp:md p) (hx:NL p x) (hy:NL p y) (h0:0<y.1):FnOK Tryz.prog false 104 [.c (.int .i64 p),cl x,cl y] (.t2 (cl (quoL p x y)) (cl (rstL p x y))):=divide_nm hp hx hy h0
-- the document's side
noncomputable def xg (p : Int) : Nat → L → L → L → L → L × L
 | 0,r,_,u,_=>(r,u)
 | t+1,r,s,u,v=>if s.1=0 then(r,u)else xg p t s (rstL p r s) v (subL p u (mulL p (quoL p r s) v))
structure XI (p : Int) (m0 : Nat) (r s u v : L) : Prop where
 hr:NL p r
 hs:NL p s
 hu:NL p u
 hv:NL p v
 hm:r.1≤512
 hb:u.1≤1/\v.1=0/\s.1≤m0∨u.1+r.1≤m0+1/\v.1+r.1≤m0+1/\s.1<r.1
end Fp
end Go.Proofs.YtibaocbpeaejkaaGreat
/- Bezout's identity for Euclid's algorithm modulo a prime. -/
namespace Go.Proofs.YtibaocbpeaejkaaGreat
namespace Fp
def Cg (p:Int) (A B:Nat->Int):Prop:=∀ k,A k%p=B k%p
theorem Cg.refl {p:Int} (A:Nat->Int):Cg p A A:=fun _=>rfl
theorem Cg.trans {p:Int} {A B C:Nat->Int} (h:Cg p A B) (k:Cg p B C):Cg p A C:=fun i=>(h i).trans (k i)
theorem mod_of {p a b:Int} (z:Int) (h:a=b+p*z):a%p=b%p:=by rw[h,Int.add_mul_emod_self_left]
theorem of_mod {p a b:Int} (h:a%p=b%p):∃ z,a=b+p*z:=by
 have h1:=Int.mul_ediv_add_emod a p
 have h2:=Int.mul_ediv_add_emod b p
 refine⟨a / p-b / p,?_⟩
 rw[Int.mul_sub]
 omega
theorem Cg.add {p:Int} {A B C D:Nat->Int} (h:Cg p A B) (k:Cg p C D):Cg p (fun i=>A i+C i) (fun i=>B i+D i):=fun i=>by
 show(A i+C i)%p=(B i+D i)%p
 rw[Int.add_emod,h i,k i,← Int.add_emod]
theorem Cg.cf {p:Int} {A B C D:Nat->Int} (h:Cg p A B) (k:Cg p C D):Cg p (cf A C) (cf B D):=fun i=>cf_mod h k i
theorem cf_sub (F G H:Nat->Int) (k:Nat):cf F (fun i=>G i-H i) k=cf F G k-cf F H k:=by
 have h:=cf_add F (fun i=>G i-H i) H k
 have e:(fun i=>G i-H i+H i)=G:=by funext i;omega
 rw[e]at h
 omega
theorem cf_add' (F G H:Nat->Int) (k:Nat):cf (fun i=>G i+H i) F k=cf G F k+cf H F k:=by
 rw[cf_comm,cf_add,cf_comm F G,cf_comm F H]
theorem cf_sub' (F G H:Nat->Int) (k:Nat):cf (fun i=>G i-H i) F k=cf G F k-cf H F k:=by
 rw[cf_comm,cf_sub,cf_comm F G,cf_comm F H]
theorem cf_asc (F G H:Nat->Int):cf (cf F G) H=cf F (cf G H):=funext fun k=>cf_assoc F G H k
theorem cf_com (F G:Nat->Int):cf F G=cf G F:=funext fun k=>cf_comm F G k
def oneF:Nat->Int:=fun i=>if i=0 then 1 else 0
theorem cf_one (F:Nat->Int):cf oneF F=F:=by
 funext k
 unfold cf
 rw[su_head]
 have e:su (fun i=>oneF (i+1)*F (k-(i+1))) k=0:=su_zero fun i _=>by
  show(if i+1=0 then 1 else 0)*_=(0:Int)
  rw[if_neg (by omega),Int.zero_mul]
 rw[e]
 show 1*F (k-0)+0=F k
 rw[Int.one_mul,Int.add_zero,Nat.sub_zero]
theorem cf_nil (F:Nat->Int):cf (fun _=>0) F=fun _=>0:=funext fun _=>su_zero fun _ _=>Int.zero_mul _
def Fin (F:Nat->Int):Prop:=∃ n,∀ j,n≤j->F j=0
theorem Fin.add {F G:Nat->Int} (h:Fin F) (k:Fin G):Fin fun i=>F i+G i:=by
 obtain⟨n,h⟩:=h
 obtain⟨m,k⟩:=k
 exact⟨max n m,fun j hj=>by show F j+G j=0;rw[h j (by omega),k j (by omega)];rfl⟩
theorem Fin.sub {F G:Nat->Int} (h:Fin F) (k:Fin G):Fin fun i=>F i-G i:=by
 obtain⟨n,h⟩:=h
 obtain⟨m,k⟩:=k
 exact⟨max n m,fun j hj=>by show F j-G j=0;rw[h j (by omega),k j (by omega)];rfl⟩
theorem Fin.cf {F G:Nat->Int} (h:Fin F) (k:Fin G):Fin (cf F G):=by
 obtain⟨n,h⟩:=h
 obtain⟨m,k⟩:=k
 refine⟨n+m,fun j hj=>su_zero fun i hi=>?_⟩
 rcases Nat.lt_or_ge i n with h1 | h1
 ·rw[k (j-i) (by omega),Int.mul_zero]
 ·rw[h i h1,Int.zero_mul]
theorem Fin.nil:Fin fun _=>0:=⟨0,fun _ _=>rfl⟩
theorem Fin.one:Fin oneF:=⟨1,fun j hj=>if_neg (by omega)⟩
theorem Nm.fin {p:Int} {x:L} (h:NL p x):Fin x.2:=⟨x.1,h.z⟩
theorem no_multiple {p b:Int} {m:Nat} {K G R:Nat->Int} (hK:Fin K) (hG:∀ j,m≤j->G j=0) (h0:0<m) (hb:(b*G (m-1))%p=1%p) (hR:∀ j,m-1≤j->R j=0) (h:Cg p (Fp.cf K G) R):Cg p K fun _=>0:=by
 obtain⟨n,hn⟩:=hK
 suffices hs:∀ d,d≤n->∀ j,n-d≤j->K j%p=0%p by
  intro k
  exact hs n (Nat.le_refl _) k (by omega)
 intro d
 induction d with
 | zero=>exact fun _ j hj=>by rw[hn j (by omega)]
 | succ d ih =>
  intro hd j hj
  have ih:=ih (by omega)
  rcases Nat.lt_or_ge j (n-d)with h1 | h1
  ·have hk:=h (j+(m-1))
   rw[hR _ (by omega)]at hk
   unfold Fp.cf at hk
   -- the sum has but one term that counts
   have e:su (fun i=>K i*G (j+(m-1)-i)) (j+(m-1)+1)%p=su (fun i=>if i=j then K j*G (m-1)else 0) (j+(m-1)+1)%p:=su_mod fun i hi=>by
    by_cases e1:i=j
    ·subst e1
     rw[if_pos rfl,show i+(m-1)-i=m-1 by omega]
    ·rw[if_neg e1]
     rcases Nat.lt_or_ge i j with h2 | h2
     ·rw[hG _ (by omega),Int.mul_zero]
     ·rw[Int.mul_emod,ih i (by omega),← Int.mul_emod,Int.zero_mul]
   rw[e]at hk
   have e2:∀ t,j<t->su (fun i=>if i=j then K j*G (m-1)else 0) t=K j*G (m-1):=by
    intro t
    induction t with
    | zero=>intro h;omega
    | succ t iht =>
     intro ht
     show su _ t+(if t=j then K j*G (m-1)else 0)=_
     by_cases e3:t=j
     ·rw[if_pos e3,su_zero fun i hi=>if_neg (by omega),Int.zero_add]
     ·rw[if_neg e3,iht (by omega),Int.add_zero]
   rw[e2 _ (by omega)]at hk
   obtain⟨z,hk⟩:=of_mod hk
   obtain⟨y,hb⟩:=of_mod hb
   refine mod_of (b*z-K j*y) ?_
   grind
  ·exact ih j h1
theorem pr_cf {p:Int} {x y:L} (hx:NL p x):Cg p (mulL p x y).2 (cf x.2 y.2):=fun k=>by
 show pr p x.2 y.2 x.1 k%p=_
 unfold pr
 rw[cv_cf hx.z,Int.emod_emod]
theorem sub_cg {p:Int} (x y:L):Cg p (subL p x y).2 (fun i=>x.2 i-y.2 i):=fun k=>by
 show sm p (p-1) x.2 y.2 k%p=_
 unfold sm
 rw[Int.emod_emod]
 show(x.2 k+(p-1)*y.2 k)%p=(x.2 k-y.2 k)%p
 exact mod_of (y.2 k) (by rw[Int.sub_mul];omega)
theorem add_cg {p:Int} (x y:L):Cg p (addL p x y).2 (fun i=>x.2 i+y.2 i):=fun k=>by
 show sm p 1 x.2 y.2 k%p=_
 unfold sm
 rw[Int.emod_emod,Int.one_mul]
theorem sc_cg {p c:Int} (x:L):Cg p (scL p c x).2 (fun i=>c*x.2 i):=fun k=>by
 show sc p c x.2 k%p=_
 unfold sc
 rw[Int.emod_emod,Int.mul_emod,Int.emod_emod,← Int.mul_emod]
theorem div_cg {p:Int} {x y:L} (hp:md p) (hx:NL p x) (hy:NL p y) (h0:0<y.1):Cg p x.2 (fun k=>cf (quoL p x y).2 y.2 k+(rstL p x y).2 k):=fun k=>by
 have h:(cf (qt p x.1 y.1 x.2 y.2) y.2 k+rs p x.1 y.1 x.2 y.2 k)%p=x.2 k:=hx.div hp hy h0 k
 show x.2 k%p=(cf (qt p x.1 y.1 x.2 y.2) y.2 k+rs p x.1 y.1 x.2 y.2 k)%p
 rw[h,Int.emod_eq_of_lt (hx.r k).1 (hx.r k).2]
theorem Nm.eq {p:Int} {x y:L} (hx:NL p x) (hy:NL p y) (h:Cg p x.2 y.2):x=y:=by
 have e:x.2=y.2:=funext fun k=>by
  have:=h k
  rwa [Int.emod_eq_of_lt (hx.r k).1 (hx.r k).2,Int.emod_eq_of_lt (hy.r k).1 (hy.r k).2]at this
 have e1:x.1=y.1:=by
  have h1:=hx.l
  have h2:=hy.l
  rcases Nat.lt_trichotomy x.1 y.1 with h | h | h
  ·exact absurd (by rw[← e];exact hx.z _ (by omega)) (h2 (by omega))
  ·exact h
  ·exact absurd (by rw[e];exact hy.z _ (by omega)) (h1 (by omega))
 exact Prod.ext e1 e
noncomputable abbrev one1:L:=(1,oneF)
noncomputable abbrev nil0:L:=(0,fun _=>0)
noncomputable abbrev xgr (p:Int) (f g:L):L × L:=xg p g.1 f g one1 nil0
noncomputable abbrev xgb (p:Int) (f g:L):Int:=inv ((xgr p f g).1.2 ((xgr p f g).1.1-1)) p
noncomputable abbrev xgd (p:Int) (f g:L):L:=scL p (xgb p f g) (xgr p f g).1
noncomputable abbrev xgper (p:Int) (f g:L):L:=quoL p g (xgd p f g)
noncomputable abbrev xgu (p:Int) (f g:L):L:=rstL p (scL p (xgb p f g) (xgr p f g).2) (xgper p f g)
noncomputable abbrev xgw (p:Int) (f g:L):L:=subL p (xgd p f g) (mulL p (xgu p f g) f)
noncomputable abbrev xgv (p:Int) (f g:L):L:=quoL p (xgw p f g) g
theorem NL.one {p:Int} (hp:md p):NL p one1:=⟨by show 1≤4096;omega,fun i=>by
 show 0≤(if i=0 then(1:Int)else 0)/\(if i=0 then(1:Int)else 0)<p
 have:=hp.1
 split <;> omega,fun j hj=>if_neg (by have hj:1≤j:=hj;omega),rfl⟩
structure Xgs (p : Int) (f g : L) : Prop where
 r:NL p (xgr p f g).1
 u0:NL p (xgr p f g).2
 r0:0<(xgr p f g).1.1
 rl:(xgr p f g).1.1≤512
 d:NL p (xgd p f g)
 d0:0<(xgd p f g).1
 per:NL p (xgper p f g)
 per0:0<(xgper p f g).1
 u:NL p (xgu p f g)
 ul:(xgu p f g).1<g.1+1
 w:NL p (xgw p f g)
 v:NL p (xgv p f g)
 vl:(xgv p f g).1≤1536
 bez:Cg p (fun k=>cf (xgu p f g).2 f.2 k+cf (xgv p f g).2 g.2 k) (xgd p f g).2
end Fp
end Go.Proofs.YtibaocbpeaejkaaGreat
/- Digits of large integers: trimmed, Sign, Bits, and the document's trim, Norm, Sign, Of. -/
namespace Go.Proofs.YtibaocbpeaejkaaGreat
open Go.RowKit
namespace Fp
abbrev dl (q:Nat) (d:Nat->Int):Cell := .row 1 q fun i _ => .int .u32 (d i)
abbrev bi (s:Bool) (q:Nat) (d:Nat->Int):V := .g [.bool s,dl q d]
theorem subRowD {n m:Nat} {a b:Nat->Int} (h:n=m) (h2:∀ i,i<m->a i=b i):Sub (.c (dl n a)) (.c (dl m b)) :=
 subRowG h fun i _ hi _=>congrArg (Cell.int .u32) (h2 i hi)
set_option maxHeartbeats 4000000 in
theorem btrimmed_ok {n:Nat} {a:Nat->Int} (hn:n≤1048576):FnOK Tryz.prog false 83 [.c (dl n a)] (.c (dl (tl a n) a)):=by
 refine fn_ok (E:=E0) E0_ok Tryz.func83 rfl mixed (by kernel_rfl) (by kernel_rfl) ?_
 conv=>whnf
 refine loop_ints (fun m:Nat=>ist [(0,.c (dl m a))] []) (fun m=>m) (fun m=>m≤n/\tl a m=tl a n) n rfl (Weak.ints [] rfl trivial ⟨⟨_,_,rfl,rfl,fun _ _ _ _=>rfl⟩,trivial⟩) ⟨by omega,rfl⟩ fun m ⟨hm,ht⟩=>?_
 conv=>whnf
 refine bcase (fun(h:gw true (decide ((0:Int)<m))=true)=>?_) fun(h:gw true (decide ((0:Int)<m))=false)=>?_
 ·have h:=of_decide_eq_true (gw_true.1 h)
  obtain⟨k,rfl⟩:∃ k,m=k+1:=⟨m-1,by omega⟩
  have ek:(((k+1:Nat):Int)-1).toNat=k:=by omega
  conv=>whnf
  refine⟨i64 (by omega) (by omega),?_⟩
  conv=>whnf
  refine⟨by omega,by omega,?_⟩
  conv=>whnf
  refine bcase (fun(h1:decide (a (((k+1:Nat):Int)-1).toNat=0)=true)=>?_) fun(h1:decide (a (((k+1:Nat):Int)-1).toNat=0)=false)=>?_
  ·have h1:=of_decide_eq_true h1
   rw[ek]at h1
   conv=>whnf
   refine⟨i64 (by omega) (by omega),?_⟩
   conv=>whnf
   refine⟨by omega,by omega,?_⟩
   conv=>whnf
   refine⟨by omega,?_⟩
   conv=>whnf
   refine⟨k,by omega,Weak.ints [] rfl trivial ⟨⟨_,_,rfl,?_,fun i j hi hj=>?_⟩,trivial⟩,by omega,by rw[← ht];simp[tl,h1]⟩
   ·omega
   ·show Cell.int .u32 (a (Int.toNat 0+i))=_
    rw[show Int.toNat 0+i=i by omega]
  ·have h1:=of_decide_eq_false h1
   rw[ek]at h1
   conv=>whnf
   exact⟨rfl,subRowD (by rw[← ht];simp[tl,h1]) fun _ _=>rfl⟩
 ·have h:¬(0:Int)<m:=of_decide_eq_false (gw_false.1 h)
  obtain rfl:m=0:=by omega
  conv=>whnf
  exact⟨rfl,subRowD (by rw[← ht];rfl) fun _ _=>rfl⟩
end Fp
namespace Bt
theorem retI {k:IntKind} {a b:Int} (h:a=b):Ending.returned (.int k a) = .returned (.int k b):=by rw[h]
set_option maxRecDepth 100000
def lenTab:ByteArray:={ data:=#[0,1,2,2,3,3,3,3,4,4,4,4,4,4,4,4,5,5,5,5,5,5,5,5,5,5,5,5,5,5,5,5,6,6,6,6,6,6,6,6,6,6,6,6,6,6,6,6,6,6,6,6,6,6,6,6,6,6,6,6,6,6,6,6,7,7,7,7,7,7,7,7,7,7,7,7,7,7,7,7,7,7,7,7,7,7,7,7,7,7,7,7,7,7,7,7,7,7,7,7,7,7,7,7,7,7,7,7,7,7,7,7,7,7,7,7,7,7,7,7,7,7,7,7,7,7,7,7,8,8,8,8,8,8,8,8,8,8,8,8,8,8,8,8,8,8,8,8,8,8,8,8,8,8,8,8,8,8,8,8,8,8,8,8,8,8,8,8,8,8,8,8,8,8,8,8,8,8,8,8,8,8,8,8,8,8,8,8,8,8,8,8,8,8,8,8,8,8,8,8,8,8,8,8,8,8,8,8,8,8,8,8,8,8,8,8,8,8,8,8,8,8,8,8,8,8,8,8,8,8,8,8,8,8,8,8,8,8,8,8,8,8,8,8,8,8,8,8,8,8,8,8,8,8,8,8] }
theorem lenTab_size:lenTab.size=256:=by decide +kernel
theorem lenTab_all:∀ i:Fin 256,0<i.1->1≤(lenTab.data.toList[i.1]?.getD 0).toNat/\(lenTab.data.toList[i.1]?.getD 0).toNat≤8/\2^((lenTab.data.toList[i.1]?.getD 0).toNat-1)≤i.1/\i.1<2^(lenTab.data.toList[i.1]?.getD 0).toNat:=by decide +kernel
theorem lenTab_at (i:Nat) (h:i<lenTab.size) (h0:0<i):1≤lenTab[i].toNat/\lenTab[i].toNat≤8/\2^(lenTab[i].toNat-1)≤i/\i<2^lenTab[i].toNat:=by
 have h2:i<256:=h
 have:=lenTab_all ⟨i,h2⟩ h0
 have e:lenTab.data.toList[i]?.getD 0=lenTab[i]:=by
  rw[List.getElem?_eq_getElem (show i<lenTab.data.toList.length from h2)];rfl
 have h3:1≤(lenTab.data.toList[i]?.getD 0).toNat/\(lenTab.data.toList[i]?.getD 0).toNat≤8/\2^((lenTab.data.toList[i]?.getD 0).toNat-1)≤i/\i<2^(lenTab.data.toList[i]?.getD 0).toNat:=this
 rwa [e]at h3
theorem len_fin {x y k t:Nat} (hy:y=x / 2^k) (h1:1≤t) (h2:2^(t-1)≤y) (h3:y<2^t):2^(k+t-1)≤x/\x<2^(k+t):=by
 subst hy
 have hp:0<2^k:=Nat.pow_pos (by omega)
 constructor
 ·rw[show k+t-1=(t-1)+k from by omega,Nat.pow_add]
  exact(Nat.le_div_iff_mul_le hp).1 h2
 ·rw[Nat.add_comm k t,Nat.pow_add]
  exact(Nat.div_lt_iff_lt_mul hp).1 h3
def IsLen (X:Int) (n:Nat):Prop:=1≤n/\n≤32/\2^(n-1)≤X.toNat/\X.toNat<2^n
theorem isLen_of {X Y:Int} {k:Nat} (hk:k≤24) (hY:Y.toNat=X.toNat / 2^k) (h:Y.toNat<lenTab.size) (h0:0<Y.toNat):IsLen X (k+lenTab[Y.toNat].toNat):=by
 obtain⟨h1,h2,h3,h4⟩:=lenTab_at Y.toNat h h0
 have:=len_fin hY h1 h3 h4
 exact⟨by omega,by omega,this.1,this.2⟩
theorem len_sum (a:Int) (t:Nat) (h0:0≤a) (h1:a≤24) (ht:t≤8):wrap64 (a+wrap64 (t:Int))=((a.toNat+t:Nat):Int):=by
 rw[IntWalk.wrap64_in (t:Int) ⟨by omega,by omega⟩,IntWalk.wrap64_in _ ⟨by omega,by omega⟩];omega
def LenPost (X:Int) (w:World) (e:Ending) (w':World):Prop:=∃ n:Nat,e = .returned (.int .i64 n)/\IsLen X n/\w=w'
set_option maxRecDepth 100000 in
set_option maxHeartbeats 1000000 in
theorem len32_any (X : Int) (w : World) (h0 : 0 < X) (h1 : X < 4294967296) :
  Calls Tryz.prog 119 #[.int .u32 X] w (LenPost X w):=by
 by_cases c1:65536≤X
 ·have hd1:decide (65536≤X)=true:=by simp;omega
  by_cases c2:16777216≤X
  ·have hd2:decide (256≤X / 65536)=true:=by simp;omega
   have hl:(X / 65536 / 256).toNat<lenTab.size:=by rw[lenTab_size];omega
   have L:=Lib.hid (isLen_of (X:=X) (k:=24) (Y:=X / 65536 / 256) (by omega) (by simp only[show(2:Nat)^24=16777216 from rfl];omega) hl (by omega))
   have hT:=Lib.hid (lenTab_at _ hl (by omega))
   have hb1:0≤X / 65536 / 256:=by omega
   have hb2:X / 65536 / 256<256:=by omega
   go_enter Tryz.func119,Tryz.ntmps119
   go_wp2
   go_ret
   exact⟨_,retI (len_sum 24 _ (by omega) (by omega) hT.out.2.1),L.out,rfl⟩
  ·have hd2:decide (256≤X / 65536)=false:=by simp;omega
   have hl:(X / 65536).toNat<lenTab.size:=by rw[lenTab_size];omega
   have L:=Lib.hid (isLen_of (X:=X) (k:=16) (Y:=X / 65536) (by omega) (by simp only[show(2:Nat)^16=65536 from rfl];omega) hl (by omega))
   have hT:=Lib.hid (lenTab_at _ hl (by omega))
   have hb1:0≤X / 65536:=by omega
   have hb2:X / 65536<256:=by omega
   go_enter Tryz.func119,Tryz.ntmps119
   go_wp2
   go_ret
   exact⟨_,retI (len_sum 16 _ (by omega) (by omega) hT.out.2.1),L.out,rfl⟩
 ·have hd1:decide (65536≤X)=false:=by simp;omega
  by_cases c2:256≤X
  ·have hd2:decide (256≤X)=true:=by simp;omega
   have hl:(X / 256).toNat<lenTab.size:=by rw[lenTab_size];omega
   have L:=Lib.hid (isLen_of (X:=X) (k:=8) (Y:=X / 256) (by omega) (by simp only[show(2:Nat)^8=256 from rfl];omega) hl (by omega))
   have hT:=Lib.hid (lenTab_at _ hl (by omega))
   have hb1:0≤X / 256:=by omega
   have hb2:X / 256<256:=by omega
   go_enter Tryz.func119,Tryz.ntmps119
   go_wp2
   go_ret
   exact⟨_,retI (len_sum 8 _ (by omega) (by omega) hT.out.2.1),L.out,rfl⟩
  ·have hd2:decide (256≤X)=false:=by simp;omega
   have hl:X.toNat<lenTab.size:=by rw[lenTab_size];omega
   have L:=Lib.hid (isLen_of (X:=X) (k:=0) (Y:=X) (by omega) (by simp) hl (by omega))
   have hT:=Lib.hid (lenTab_at _ hl (by omega))
   have hb1:0≤X:=by omega
   have hb2:X<256:=by omega
   go_enter Tryz.func119,Tryz.ntmps119
   go_wp2
   go_ret
   exact⟨_,retI (by have:=len_sum 0 (lenTab[X.toNat]'hl).toNat (by omega) (by omega) hT.out.2.1;rw[Int.zero_add]at this;exact this),L.out,rfl⟩
end Bt
namespace Fp
open Bt
def lb (X:Int):Nat:=Nat.log2 X.toNat+1
theorem isLen_lb {X:Int} {n:Nat} (h:IsLen X n):n=lb X:=by
 obtain⟨h1,_,h3,h4⟩:=h
 have h0:X.toNat≠0:=by
  have:=Nat.pow_pos (n:=n-1) (show 0<2 by decide)
  omega
 have e1:=(Nat.le_log2 h0).2 h3
 have e2:=(Nat.log2_lt h0).2 h4
 unfold lb
 omega
theorem len_ok {X:Int} (h0:0<X) (h1:X<4294967296):FnOK Tryz.prog false 119 [.c (.int .u32 X)] (.c (.int .i64 (lb X))):=by
 refine⟨by kernel_rfl,fun D w vs _ _ hargs=>?_⟩
 match vs,hargs with
 | [v0],⟨e0,_⟩ =>
  obtain rfl:v0 = .int .u32 X:=e0
  refine(len32_any X w h0 h1).mono ?_
  rintro e w' ⟨n,rfl,hn,rfl⟩
  exact⟨_,rfl,by rw[isLen_lb hn];exact rfl,Below.refl _ _⟩
def nb (a:Nat->Int) (m:Nat):Nat:=if m=0 then 0 else 32*(m-1)+lb (a (m-1))
theorem lb_le {X:Int} (h1:X<4294967296):lb X≤32:=by
 unfold lb
 rcases Nat.eq_zero_or_pos X.toNat with h | h
 ·rw[h];decide
 ·have:=(Nat.log2_lt (n:=X.toNat) (k:=32) (by omega)).2 (by omega)
  omega
theorem lb_lt {X:Int}:X.toNat<2^lb X:=Nat.lt_log2_self
theorem nb_le {a:Nat->Int} {m:Nat} (ha:∀ i,0≤a i/\a i<4294967296):nb a m≤32*m:=by
 unfold nb
 have:=lb_le (ha (m-1)).2
 split <;> omega
set_option maxHeartbeats 4000000 in
theorem bits_ok {n:Nat} {a:Nat->Int} {s:Bool} (hn:n≤1048576) (ha:∀ i,0≤a i/\a i<4294967296):FnOK Tryz.prog false 80 [bi s n a] (.c (.int .i64 (nb a (tl a n)))):=by
 have h:=btrimmed_ok (a:=a) hn
 have hle:=tl_le a n
 have hlast:0<tl a n->a (tl a n-1)≠0:=tl_last
 generalize tl a n=m at *
 refine fn_ok (E:=E0) E0_ok Tryz.func80 rfl mixed (by kernel_rfl) (by kernel_rfl) ?_
 conv=>whnf
 refine⟨_,h,?_⟩
 conv=>whnf
 refine bcase (fun(h1:decide ((m:Int)=0)=true)=>?_) fun(h1:decide ((m:Int)=0)=false)=>?_
 ·have h1:=of_decide_eq_true h1
  obtain rfl:m=0:=by omega
  conv=>whnf
  exact⟨rfl,Sub.refl _⟩
 ·have h1:=of_decide_eq_false h1
  have h2:=hlast (by omega)
  have h3:=ha (m-1)
  have h4:=lb_le h3.2
  have em:((m:Int)-1).toNat=m-1:=by omega
  have hl:=len_ok (X:=a (m-1)) (by omega) h3.2
  rw[← em]at hl
  conv=>whnf
  refine⟨i64 (by omega) (by omega),?_⟩
  conv=>whnf
  refine⟨i64 (by omega) (by omega),?_⟩
  conv=>whnf
  refine⟨i64 (by omega) (by omega),?_⟩
  conv=>whnf
  refine⟨by omega,by omega,?_⟩
  conv=>whnf
  refine⟨_,hl,?_⟩
  conv=>whnf
  rw[em]
  refine⟨i64 (by omega) (by omega),?_⟩
  conv=>whnf
  refine⟨rfl,subI ?_⟩
  unfold nb
  rw[if_neg (by omega)]
  omega
end Fp
end Go.Proofs.YtibaocbpeaejkaaGreat
/- Xgcd of the program. -/
namespace Go.Proofs.YtibaocbpeaejkaaGreat
open Go.RowKit
namespace Fp
noncomputable abbrev nfL (p:Int) (x:L):L:=(tl (nf p x.1 x.2) x.1,nf p x.1 x.2)
theorem NL.nfL {p:Int} {x:L} (hp:md p) (h:x.1≤4096):NL p (nfL p x):=Nm.nf (by have:=hp.1;omega) h
theorem nfL_le (p:Int) (x:L):(nfL p x).1≤x.1:=tl_le _ _
theorem normal_L {p:Int} {x:L} (hp:md p) (h:x.1≤4096):FnOK Tryz.prog false 70 [.c (.int .i64 p),cl x] (cl (nfL p x)):=normal_ok (by have:=hp.1;omega) hp.2.1 (by omega)
-- g is nothing
noncomputable abbrev moL (p:Int) (x:L):L:=scL p (inv (x.2 (x.1-1)) p) x
theorem monic_L {p:Int} {x:L} (hp:md p) (hx:NL p x):FnOK Tryz.prog false 61 [.c (.int .i64 p),cl x] (cl (moL p x)):=monic_ok hp hx.n4 hx.r hx.z hx.l
end Fp
end Go.Proofs.YtibaocbpeaejkaaGreat
/- Powers modulo a polynomial, plain. -/
namespace Go.Proofs.YtibaocbpeaejkaaGreat
namespace Fp
def Cm (p:Int) (m A B:Nat->Int):Prop:=∃ K,Fin K/\Cg p A fun k=>B k+cf K m k
theorem Cm.of {p:Int} {m A B:Nat->Int} (h:Cg p A B):Cm p m A B:=⟨fun _=>0,Fin.nil,h.trans fun k=>by
 show B k%p=(B k+cf (fun _=>0) m k)%p
 rw[cf_nil,Int.add_zero]⟩
theorem Cm.symm {p:Int} {m A B:Nat->Int} (h:Cm p m A B):Cm p m B A:=by
 obtain⟨K,fK,h⟩:=h
 refine⟨fun k=>0-K k,Fin.nil.sub fK,fun k=>?_⟩
 dsimp only
 rw[cf_sub',cf_nil]
 dsimp only
 obtain⟨z,hz⟩:=of_mod (h k)
 have hz:A k=B k+cf K m k+p*z:=hz
 exact mod_of (-z) (by rw[Int.mul_neg];omega)
theorem Cm.trans {p:Int} {m A B C:Nat->Int} (h:Cm p m A B) (h2:Cm p m B C):Cm p m A C:=by
 obtain⟨K,fK,h⟩:=h
 obtain⟨J,fJ,h2⟩:=h2
 refine⟨fun k=>K k+J k,fK.add fJ,fun k=>?_⟩
 dsimp only
 rw[cf_add']
 obtain⟨z,hz⟩:=of_mod (h k)
 obtain⟨y,hy⟩:=of_mod (h2 k)
 have hz:A k=B k+cf K m k+p*z:=hz
 have hy:B k=C k+cf J m k+p*y:=hy
 exact mod_of (z+y) (by rw[Int.mul_add];omega)
theorem Cm.mulr {p:Int} {m A B C:Nat->Int} (fC:Fin C) (h:Cm p m A B):Cm p m (cf C A) (cf C B):=by
 obtain⟨K,fK,h⟩:=h
 refine⟨cf C K,fC.cf fK,((Cg.refl C).cf h).trans fun k=>?_⟩
 rw[cf_add,cf_asc]
theorem Cm.mul {p:Int} {m A B C D:Nat->Int} (fA:Fin A) (fD:Fin D) (h:Cm p m A B) (h2:Cm p m C D):Cm p m (cf A C) (cf B D):=by
 refine(h2.mulr fA).trans ?_
 rw[cf_com A D,cf_com B D]
 exact h.mulr fD
structure Rp (p : Int) (m : L) (F : Nat → Int) (r : L) : Prop where
 n:NL p r
 s:r.1<m.1
 c:Cm p m.2 r.2 F
theorem Rp.rest {p:Int} {m x:L} (hp:md p) (hm:NL p m) (h0:0<m.1) (hx:NL p x):Rp p m x.2 (rstL p x m):=by
 obtain⟨h1,h2⟩:=hx.rst hp hm h0
 refine⟨h1,h2,Cm.symm ⟨_,Nm.fin (hx.quo hp hm h0),(div_cg hp hx hm h0).trans fun k=>?_⟩⟩
 show(cf (quoL p x m).2 m.2 k+(rstL p x m).2 k)%p=((rstL p x m).2 k+cf (quoL p x m).2 m.2 k)%p
 rw[Int.add_comm]
theorem lead_inv {p:Int} {m:L} (hp:md p) (hm:NL p m) (h0:0<m.1):(inv (m.2 (m.1-1)) p*m.2 (m.1-1))%p=1%p:=by
 have h1:=hm.l h0
 have h2:=hm.r (m.1-1)
 rw[inv_spec hp (by rw[Int.emod_eq_of_lt h2.1 h2.2];omega),Int.emod_eq_of_lt (by omega) (by have:=hp.1;omega)]
theorem Rp.eq {p:Int} {m r s:L} {F:Nat->Int} (hp:md p) (hm:NL p m) (h:Rp p m F r) (h2:Rp p m F s):r=s:=by
 have h0:0<m.1:=by have:=h.s;omega
 obtain⟨K,fK,hK⟩:=h.c.trans h2.c.symm
 have hz:Cg p K fun _=>0:=no_multiple fK hm.z h0 (lead_inv hp hm h0) (R:=fun k=>r.2 k-s.2 k) (fun j hj=>by
  show r.2 j-s.2 j=0
  rw[h.n.z j (by have:=h.s;omega),h2.n.z j (by have:=h2.s;omega)]
  rfl) fun k=>by
  obtain⟨z,hz⟩:=of_mod (hK k)
  have hz:r.2 k=s.2 k+cf K m.2 k+p*z:=hz
  show cf K m.2 k%p=(r.2 k-s.2 k)%p
  exact mod_of (-z) (by rw[Int.mul_neg];omega)
 have e:Cg p (fun k=>s.2 k+cf K m.2 k) fun k=>s.2 k+cf (fun _=>0) m.2 k:=(Cg.refl s.2).add (hz.cf (Cg.refl m.2))
 refine Nm.eq h.n h2.n (hK.trans (e.trans fun k=>?_))
 dsimp only
 rw[cf_nil,Int.add_zero]
theorem Rp.of {p:Int} {m r:L} {F G:Nat->Int} (h:Rp p m F r) (hc:Cm p m.2 F G):Rp p m G r:=⟨h.n,h.s,h.c.trans hc⟩
theorem Rp.mul {p:Int} {m r s:L} {F G:Nat->Int} (hp:md p) (hm:NL p m) (fG:Fin G) (hl:m.1≤1024) (h:Rp p m F r) (h2:Rp p m G s):Rp p m (cf F G) (rstL p (mulL p r s) m)/\NL p (mulL p r s):=by
 have h0:0<m.1:=by have:=h.s;omega
 have hx:NL p (mulL p r s):=NL.mul hp h2.n (by have:=h.s;have:=h2.s;omega)
 exact⟨(Rp.rest hp hm h0 hx).of ((Cm.of (pr_cf h.n)).trans (Cm.mul (Nm.fin h.n) fG h.c h2.c)),hx⟩
def pw (F : Nat → Int) : Nat → Nat → Int
 | 0=>oneF
 | n+1=>cf F (pw F n)
theorem pw_fin {F : Nat → Int} (h : Fin F) : ∀ n, Fin (pw F n)
 | 0=>Fin.one
 | n+1=>h.cf (pw_fin h n)
theorem pw_add (F : Nat → Int) (b : Nat) : ∀ a, pw F (a + b) = cf (pw F a) (pw F b)
 | 0=>by rw[Nat.zero_add];exact(cf_one _).symm
 | a+1=>by
  rw[show a+1+b=a+b+1 by omega]
  show cf F (pw F (a+b))=cf (cf F (pw F a)) (pw F b)
  rw[pw_add F b a,cf_asc]
def bs (b : Nat → Nat) (k : Nat) : Nat → Nat
 | 0=>0
 | n+1=>bs b k n+b (k+n)*2^n
theorem bs_low (b : Nat → Nat) (k : Nat) : ∀ n, bs b k (n + 1) = b k + 2 * bs b (k + 1) n
 | 0=>by simp[bs]
 | n+1=>by
  show bs b k (n+1)+b (k+(n+1))*2^(n+1)=b k+2*(bs b (k+1) n+b (k+1+n)*2^n)
  rw[bs_low b k n,show k+(n+1)=k+1+n by omega,Nat.pow_succ,Nat.mul_add,Nat.add_assoc]
  congr 1
  congr 1
  rw[Nat.mul_comm (2^n) 2,← Nat.mul_assoc,Nat.mul_comm (b (k+1+n)) 2,Nat.mul_assoc]
theorem bs_more {b : Nat → Nat} {n : Nat} : ∀ {m : Nat}, n ≤ m → (∀ j, n ≤ j → j < m → b j = 0) → bs b 0 m = bs b 0 n
 | 0,h,_=>by rw[show n=0 by omega]
 | m+1,h,hz=>by
  rcases Nat.lt_or_ge m n with h1 | h1
  ·rw[show n=m+1 by omega]
  ·show bs b 0 m+b (0+m)*2^m=_
   rw[bs_more h1 fun j a b=>hz j a (by omega),Nat.zero_add,hz m h1 (by omega),Nat.zero_mul,Nat.add_zero]
theorem bs_bits (x : Nat) : ∀ n, bs (fun j => x / 2 ^ j % 2) 0 n = x % 2 ^ n
 | 0=>by show 0=x%1;omega
 | n+1=>by
  show bs (fun j=>x / 2^j%2) 0 n+x / 2^(0+n)%2*2^n=x%2^(n+1)
  rw[bs_bits x n,Nat.zero_add,Nat.pow_succ,Nat.mod_mul,Nat.mul_comm (2^n)]
def bt (a:Nat->Int) (i:Nat):Nat:=(a (i / 32)).toNat / 2^(i%32)%2
end Fp
end Go.Proofs.YtibaocbpeaejkaaGreat
/- Powers of a polynomial modulo another one: the program's powMod and PowMod. -/
namespace Go.Proofs.YtibaocbpeaejkaaGreat
open Go.RowKit
namespace Fp
theorem subCon {D:Nat->Prop} {w:World} {v:Value} {g:Nat->Nat->Cell} (h:g 0 0 = .int .i64 1) (hv:VRel D w [] (.c (.row 1 1 g)) v):VRel D w [] (cl one1) v :=
 subRowG rfl (fun i j hi hj=>by
  match i,j,hi,hj with
  | 0,0,_,_=>exact h) D w v hv
theorem and_one {x:Int} (h0:0≤x) (h1:x<4294967296):IntKind.u32.wrap ((BitVec.ofInt IntKind.u32.bits x &&& BitVec.ofInt IntKind.u32.bits 1).toNat:Nat)=((x.toNat%2:Nat):Int):=by
 have e:(BitVec.ofInt IntKind.u32.bits x &&& BitVec.ofInt IntKind.u32.bits 1).toNat=x.toNat%2:=by
  rw[BitVec.toNat_and]
  have e1:(BitVec.ofInt IntKind.u32.bits x).toNat=x.toNat:=by
   show(BitVec.ofInt 32 x).toNat=_
   rw[BitVec.toNat_ofInt]
   omega
  have e2:(BitVec.ofInt IntKind.u32.bits 1).toNat=1:=by decide
  rw[e1,e2,Nat.and_one_is_mod]
 rw[e]
 have:=Nat.mod_lt x.toNat (show 0<2 by decide)
 simp[IntKind.wrap,IntKind.signed,IntKind.bits]
 omega
theorem shr_eq {x:Int} {k:Nat} (h0:0≤x) (hk:k<32):x.fdiv (2^min k IntKind.u32.bits)=((x.toNat / 2^k:Nat):Int):=by
 rw[show min k IntKind.u32.bits=k from Nat.min_eq_left (Nat.le_of_lt hk),Int.fdiv_eq_ediv_of_nonneg _ (Int.le_of_lt (Int.pow_pos (by decide)))]
 rw[Int.natCast_ediv,Int.natCast_pow,Int.toNat_of_nonneg h0]
 rfl
theorem bit_eq {a:Nat->Int} {i:Nat} (ha:∀ i,0≤a i/\a i<4294967296):IntKind.u32.wrap ((BitVec.ofInt IntKind.u32.bits ((a (Int.tdiv (((i+1:Nat):Int)-1) 32).toNat).fdiv (2^min (Int.tmod (((i+1:Nat):Int)-1) 32).toNat IntKind.u32.bits)) &&& BitVec.ofInt IntKind.u32.bits 1).toNat:Nat)=((bt a i:Nat):Int):=by
 have eI:((i+1:Nat):Int)-1=i:=by omega
 have ed:(Int.tdiv (((i+1:Nat):Int)-1) 32).toNat=i / 32:=by rw[eI,Int.tdiv_eq_ediv_of_nonneg (by omega)];omega
 have er:(Int.tmod (((i+1:Nat):Int)-1) 32).toNat=i%32:=by rw[eI,Int.tmod_eq_emod_of_nonneg (by omega)];omega
 have h:=ha (i / 32)
 rw[ed,er,shr_eq h.1 (Nat.mod_lt _ (by decide))]
 have hle:=Nat.div_le_self (a (i / 32)).toNat (2^(i%32))
 have eb:bt a i=(a (i / 32)).toNat / 2^(i%32)%2:=rfl
 generalize (a (i / 32)).toNat / 2^(i%32)=y at *
 rw[and_one (by omega) (by omega),eb,Int.toNat_natCast]
set_option maxHeartbeats 8000000 in
theorem powMod_ok {p:Int} {f m r:L} {s:Bool} {q:Nat} {a:Nat->Int} (hp:md p) (hf:NL p f) (hm:NL p m) (h0:0<m.1) (hl:m.1≤1024) (hq:q≤1024) (ha:∀ i,0≤a i/\a i<4294967296) (hr:Rp p m (pw f.2 (bs (bt a) 0 (nb a (tl a q)))) r):FnOK Tryz.prog false 131 [.c (.int .i64 p),cl f,bi s q a,cl m] (cl r):=by
 have hfr:=Rp.rest hp hm h0 hf
 have h1r:=Rp.rest hp hm h0 (NL.one hp)
 have hd1:=divide_L hp hf hm h0
 have hd2:=divide_L hp (NL.one hp) hm h0
 have hB:=bits_ok (s:=s) (n:=q) (a:=a) (by omega) ha
 have hnb:=nb_le (m:=tl a q) ha
 have htl:=tl_le a q
 generalize hF:rstL p f m=f1 at *
 generalize hO:rstL p one1 m=o1 at *
 generalize nb a (tl a q)=N at *
 refine fn_ok (E:=E0) E0_ok Tryz.func131 rfl mixed (by kernel_rfl) (by kernel_rfl) ?_
 conv=>whnf
 refine⟨_,hd1,?_⟩
 conv=>whnf
 refine⟨fun i j hi hj=>?_,?_⟩
 ·match i,j,hi,hj with
  | 0,0,_,_=>rfl
 conv=>whnf
 refine⟨_,arg_ok hd2 (fun D w vs h=>match vs,h with
  | [_,_,_],⟨e0,e1,e2,_⟩=>⟨e0,subCon rfl e1,e2,trivial⟩),?_⟩
 conv=>whnf
 refine⟨_,hB,?_⟩
 conv=>whnf
 refine⟨i64 (by omega) (by omega),?_⟩
 conv=>whnf
 refine loop_ints (fun((k,o):Nat × L)=>⟨asg [(0,.c (.int .i64 p)),(1,cl f1),(3,cl m),(6,.c (.p 0 0 2 0 0)),(10,cl o),(11,.c (.int .i64 ((k:Int)-1)))],[⟨30,2,1,0,0,boxF [.bool s,dl q a]⟩]⟩) (fun(k,_)=>k) (fun(k,o)=>k≤N/\Rp p m (pw f.2 (bs (bt a) k (N-k))) o) (N,o1) rfl ?_ (show N≤N/\Rp p m (pw f.2 (bs (bt a) N (N-N))) o1 from⟨Nat.le_refl _,by rw[Nat.sub_self];exact h1r⟩) ?_
 ·exact Weak.cut rfl ⟨rfl,rfl,rfl,rfl,rfl,rfl,trivial⟩ rfl ⟨fun _ i j hi hj=>match i,j,hi,hj with
   | 0,0,_,_=>rfl
   | 0,1,_,_=>rfl,trivial⟩ rfl
 rintro ⟨k,o⟩ hI
 obtain⟨h1,h2⟩:k≤N/\Rp p m (pw f.2 (bs (bt a) k (N-k))) o:=hI
 conv=>whnf
 refine bcase (fun(h:decide ((0:Int)≤(k:Int)-1)=true)=>?_) fun(h:decide ((0:Int)≤(k:Int)-1)=false)=>?_
 ·have h:=of_decide_eq_true h
  obtain⟨i,rfl⟩:∃ i,k=i+1:=⟨k-1,by omega⟩
  obtain⟨h3,h4⟩:=h2.mul hp hm (pw_fin (Nm.fin hf) _) hl h2
  rw[← pw_add]at h3
  have ht1:=times_L hp h2.n h2.n (by have:=h2.s;omega) (by have:=h2.s;omega)
  have hv1:=divide_L hp h4 hm h0
  obtain⟨h5,h6⟩:=h3.mul hp hm (Nm.fin hf) hl hfr
  have ht2:=times_L hp h3.n hfr.n (by have:=h3.s;omega) (by have:=hfr.s;omega)
  have hv2:=divide_L hp h6 hm h0
  have eb:=bs_low (bt a) i (N-(i+1))
  rw[show N-(i+1)+1=N-i by omega]at eb
  conv=>whnf
  refine⟨_,ht1,?_⟩
  conv=>whnf
  refine⟨_,hv1,?_⟩
  have eI:((i+1:Nat):Int)-1=i:=by omega
  have ed:Int.tdiv (((i+1:Nat):Int)-1) 32=((i / 32:Nat):Int):=by rw[eI,Int.tdiv_eq_ediv_of_nonneg (by omega)];omega
  have er:Int.tmod (((i+1:Nat):Int)-1) 32=((i%32:Nat):Int):=by rw[eI,Int.tmod_eq_emod_of_nonneg (by omega)];omega
  conv=>whnf
  refine⟨by decide,i64 (by rw[ed];omega) (by rw[ed];omega),?_⟩
  conv=>whnf
  refine⟨by rw[ed];omega,by rw[ed];omega,?_⟩
  conv=>whnf
  refine⟨by decide,?_⟩
  conv=>whnf
  refine⟨by rw[er];omega,?_⟩
  conv=>whnf
  refine bcase (fun h8=>?_) fun h8=>?_
  ·have h8:=of_decide_eq_true h8
   rw[bit_eq ha]at h8
   have h9:bt a i=1:=by omega
   have h5':=h5
   rw[cf_com]at h5'
   rw[← show pw f.2 (bs (bt a) (i+1) (N-(i+1))+bs (bt a) (i+1) (N-(i+1))+1)=cf f.2 (pw f.2 (bs (bt a) (i+1) (N-(i+1))+bs (bt a) (i+1) (N-(i+1))))from rfl,show bs (bt a) (i+1) (N-(i+1))+bs (bt a) (i+1) (N-(i+1))+1=bs (bt a) i (N-i)by omega]at h5'
   conv=>whnf
   refine⟨_,ht2,?_⟩
   conv=>whnf
   refine⟨_,hv2,?_⟩
   conv=>whnf
   refine⟨i64 (by omega) (by omega),?_⟩
   conv=>whnf
   refine⟨(i,rstL p (mulL p (rstL p (mulL p o o) m) f1) m),by show i<i+1;omega,Weak.cut rfl ⟨rfl,rfl,rfl,rfl,rfl,?_,trivial⟩ rfl ⟨fun _ i j hi hj=>match i,j,hi,hj with
    | 0,0,_,_=>rfl
    | 0,1,_,_=>rfl,trivial⟩ rfl,(show i≤N/\Rp p m (pw f.2 (bs (bt a) i (N-i))) _ from⟨by omega,h5'⟩)⟩
   show V.c (Cell.int .i64 (((i+1:Nat):Int)-1-1))=V.c (Cell.int .i64 ((i:Int)-1))
   rw[eI]
  ·have h8:=of_decide_eq_false h8
   rw[bit_eq ha]at h8
   have h9:bt a i=0:=by
    have:bt a i<2:=Nat.mod_lt _ (by decide)
    omega
   rw[show bs (bt a) (i+1) (N-(i+1))+bs (bt a) (i+1) (N-(i+1))=bs (bt a) i (N-i)by omega]at h3
   conv=>whnf
   refine⟨i64 (by omega) (by omega),?_⟩
   conv=>whnf
   refine⟨(i,rstL p (mulL p o o) m),by show i<i+1;omega,Weak.cut rfl ⟨rfl,rfl,rfl,rfl,rfl,?_,trivial⟩ rfl ⟨fun _ i j hi hj=>match i,j,hi,hj with
    | 0,0,_,_=>rfl
    | 0,1,_,_=>rfl,trivial⟩ rfl,(show i≤N/\Rp p m (pw f.2 (bs (bt a) i (N-i))) _ from⟨by omega,h3⟩)⟩
   show V.c (Cell.int .i64 (((i+1:Nat):Int)-1-1))=V.c (Cell.int .i64 ((i:Int)-1))
   rw[eI]
 ·have h:=of_decide_eq_false h
  obtain rfl:k=0:=by omega
  rw[Nat.sub_zero]at h2
  obtain rfl:=h2.eq hp hm hr
  conv=>whnf
  exact⟨rfl,Sub.refl _⟩
end Fp
end Go.Proofs.YtibaocbpeaejkaaGreat
/- PowMod, and the document's Power. -/
namespace Go.Proofs.YtibaocbpeaejkaaGreat
open Go.RowKit
namespace Fp
theorem nfL_id {p:Int} {x:L} (h:NL p x):nfL p x=x:=by
 show(tl (nf p x.1 x.2) x.1,nf p x.1 x.2)=x
 rw[h.self,h.t]
theorem bs_norm {a:Nat->Int} {m:Nat} (ha:∀ i,0≤a i/\a i<4294967296):bs (bt a) 0 (32*m)=bs (bt a) 0 (nb a m):=by
 refine bs_more (nb_le ha) fun j h1 h2=>?_
 unfold nb at h1
 rw[if_neg (by omega)]at h1
 have e1:j / 32=m-1:=by omega
 unfold bt
 rw[e1,Nat.div_eq_of_lt (Nat.lt_of_lt_of_le lb_lt (Nat.pow_le_pow_right (by decide) (by omega)))]
end Fp
end Go.Proofs.YtibaocbpeaejkaaGreat
/- Frobenius: the p-th power of a sum is the sum of the p-th powers. -/
namespace Go.Proofs.YtibaocbpeaejkaaGreat
namespace Fp
def bn : Nat → Nat → Nat
 | _,0=>1
 | 0,_+1=>0
 | n+1,k+1=>bn n k+bn n (k+1)
theorem bs_congr {b c : Nat → Nat} {k : Nat} : ∀ {n : Nat}, (∀ i, i < n → b (k + i) = c (k + i)) → bs b k n = bs c k n
 | 0,_=>rfl
 | n+1,h=>by
  show bs b k n+_=bs c k n+_
  rw[bs_congr fun i hi=>h i (by omega),h n (by omega)]
end Fp
end Go.Proofs.YtibaocbpeaejkaaGreat
/- Commutative rings of one's own, identities in them by reflection, sums. Plain: no program. -/
namespace Go.Proofs.YtibaocbpeaejkaaGreat
class Crg (α : Type) extends Add α, Mul α, Neg α, _root_.Sub α, Zero α, One α where
 add_assoc:∀ a b c:α,a+b+c=a+(b+c)
 add_comm:∀ a b:α,a+b=b+a
 add_zero:∀ a:α,a+0=a
 add_neg:∀ a:α,a + -a=0
 sub_def:∀ a b:α,a-b=a + -b
 mul_assoc:∀ a b c:α,a*b*c=a*(b*c)
 mul_comm:∀ a b:α,a*b=b*a
 mul_one:∀ a:α,a*1=a
 mul_add:∀ a b c:α,a*(b+c)=a*b+a*c
namespace Crg
section
variable {α:Type} [Crg α]
theorem zero_add (a:α):0+a=a:=by rw[add_comm,add_zero]
theorem one_mul (a:α):1*a=a:=by rw[mul_comm,mul_one]
theorem neg_add (a:α) : -a+a=0:=by rw[add_comm,add_neg]
theorem add_mul (a b c:α):(a+b)*c=a*c+b*c:=by rw[mul_comm,mul_add,mul_comm c,mul_comm c]
theorem add_left_cancel {a b c:α} (h:a+b=a+c):b=c:=by
 have h:=congrArg (-a+·) h
 simp only[← add_assoc,neg_add,zero_add]at h
 exact h
theorem add_right_cancel {a b c:α} (h:b+a=c+a):b=c:=by
 rw[add_comm b,add_comm c]at h
 exact add_left_cancel h
theorem mul_zero (a:α):a*0=0:=by
 have h:a*0+a*0=a*0+0:=by rw[← mul_add,add_zero,add_zero]
 exact add_left_cancel h
theorem zero_mul (a:α):0*a=0:=by rw[mul_comm,mul_zero]
theorem neg_eq {a b:α} (h:a+b=0):b = -a:=add_left_cancel (h.trans (add_neg a).symm)
theorem neg_zero : -(0:α)=0:=(neg_eq (add_zero 0)).symm
theorem neg_neg (a:α) : -(-a)=a:=(neg_eq (neg_add a)).symm
theorem mul_neg (a b:α):a * -b = -(a*b):=neg_eq (by rw[← mul_add,add_neg,mul_zero])
theorem neg_mul (a b:α) : -a*b = -(a*b):=by rw[mul_comm,mul_neg,mul_comm]
theorem sub_zero (a:α):a-0=a:=by rw[sub_def,neg_zero,add_zero]
theorem sub_self (a:α):a-a=0:=by rw[sub_def,add_neg]
theorem sub_eq_zero {a b:α}:a-b=0↔a=b:=by
 rw[sub_def]
 refine⟨fun h=>?_,fun h=>by rw[h,add_neg]⟩
 rw[add_comm]at h
 have:=neg_eq h
 rw[neg_neg]at this
 exact this
theorem add_left_comm (a b c:α):a+(b+c)=b+(a+c):=by rw[← add_assoc,add_comm a,add_assoc]
theorem mul_left_comm (a b c:α):a*(b*c)=b*(a*c):=by rw[← mul_assoc,mul_comm a,mul_assoc]
def pw (a : α) : Nat → α
 | 0=>1
 | n+1=>pw a n*a
theorem pw_add (a : α) (m : Nat) : ∀ n, pw a (m + n) = pw a m * pw a n
 | 0=>(mul_one _).symm
 | n+1=>by
  show pw a (m+n)*a=pw a m*(pw a n*a)
  rw[pw_add a m n,mul_assoc]
theorem pw_mul (a : α) (m : Nat) : ∀ n, pw a (m * n) = pw (pw a m) n
 | 0=>rfl
 | n+1=>by rw[Nat.mul_succ,pw_add,pw_mul a m n];rfl
theorem mul_pw (a b : α) : ∀ n, pw (a * b) n = pw a n * pw b n
 | 0=>(mul_one _).symm
 | n+1=>by
  show pw (a*b) n*(a*b)=pw a n*a*(pw b n*b)
  rw[mul_pw a b n,mul_assoc,mul_assoc,mul_left_comm (pw b n)]
theorem one_pw : ∀ n, pw (1 : α) n = 1
 | 0=>rfl
 | n+1=>by show pw (1:α) n*1=1;rw[one_pw n,mul_one]
theorem pw_one (a:α):pw a 1=a:=one_mul a
def sm (f : Nat → α) : Nat → α
 | 0=>0
 | n+1=>sm f n+f n
theorem sm_congr {f g : Nat → α} : ∀ {n : Nat}, (∀ i, i < n → f i = g i) → sm f n = sm g n
 | 0,_=>rfl
 | n+1,h=>by
  show sm f n+f n=sm g n+g n
  rw[sm_congr fun i hi=>h i (by omega),h n (by omega)]
theorem sm_zero {f:Nat->α} {n:Nat} (h:∀ i,i<n->f i=0):sm f n=0:=by
 induction n with
 | zero=>rfl
 | succ n ih =>
  show sm f n+f n=0
  rw[ih fun i hi=>h i (by omega),h n (by omega),add_zero]
theorem sm_add (f g : Nat → α) : ∀ n, sm (fun i => f i + g i) n = sm f n + sm g n
 | 0=>(add_zero _).symm
 | n+1=>by
  show sm (fun i=>f i+g i) n+(f n+g n)=sm f n+f n+(sm g n+g n)
  rw[sm_add f g n,add_assoc,add_assoc,add_left_comm (sm g n)]
theorem mul_sm (c : α) (f : Nat → α) : ∀ n, c * sm f n = sm (fun i => c * f i) n
 | 0=>mul_zero c
 | n+1=>by
  show c*(sm f n+f n)=_+_
  rw[mul_add,mul_sm c f n]
theorem sm_mul (c:α) (f:Nat->α) (n:Nat):sm f n*c=sm (fun i=>f i*c) n:=by
 rw[mul_comm,mul_sm]
 exact sm_congr fun i _=>mul_comm _ _
theorem sm_head (f : Nat → α) : ∀ n, sm f (n + 1) = f 0 + sm (fun i => f (i + 1)) n
 | 0=>by show 0+f 0=f 0+0;rw[zero_add,add_zero]
 | n+1=>by
  show sm f (n+1)+f (n+1)=f 0+(sm (fun i=>f (i+1)) n+f (n+1))
  rw[sm_head f n,add_assoc]
theorem sm_rev : ∀ (n : Nat) (f : Nat → α), sm f n = sm (fun i => f (n - 1 - i)) n
 | 0,_=>rfl
 | n+1,f=>by
  rw[sm_head f n,sm_rev n fun i=>f (i+1)]
  show f 0+_=sm (fun i=>f (n+1-1-i)) n+f (n+1-1-n)
  rw[show n+1-1-n=0 by omega,add_comm]
  congr 1
  refine sm_congr fun i hi=>?_
  rw[show n-1-i+1=n+1-1-i by omega]
theorem sm_more {f : Nat → α} {n : Nat} (h : ∀ i, n ≤ i → f i = 0) : ∀ {m : Nat}, n ≤ m → sm f m = sm f n
 | 0,hm=>by rw[Nat.le_zero.1 hm]
 | m+1,hm=>by
  rcases Nat.lt_or_ge m n with h1 | h1
  ·rw[show n=m+1 by omega]
  ·show sm f m+f m=_
   rw[h m h1,add_zero,sm_more h h1]
theorem sm_one {f:Nat->α} {n k:Nat} (hk:k<n) (h:∀ i,i<n->i≠k->f i=0):sm f n=f k:=by
 induction n with
 | zero=>omega
 | succ n ih =>
  show sm f n+f n=f k
  by_cases e:k=n
  ·subst e
   rw[sm_zero fun i hi=>h i (by omega) (by omega),zero_add]
  ·rw[ih (by omega) fun i hi=>h i (by omega),h n (by omega) (fun h=>e h.symm),add_zero]
theorem sm_tri (f : Nat → Nat → α) : ∀ n, sm (fun i => sm (fun j => f j (i - j)) (i + 1)) n = sm (fun j => sm (fun l => f j l) (n - j)) n
 | 0=>rfl
 | n+1=>by
  show sm (fun i=>sm (fun j=>f j (i-j)) (i+1)) n+sm (fun j=>f j (n-j)) (n+1)=sm (fun j=>sm (fun l=>f j l) (n+1-j)) n+sm (fun l=>f n l) (n+1-n)
  rw[sm_tri f n]
  have e:sm (fun j=>sm (fun l=>f j l) (n+1-j)) n=sm (fun j=>sm (fun l=>f j l) (n-j)) n+sm (fun j=>f j (n-j)) n:=by
   rw[← sm_add]
   refine sm_congr fun j hj=>?_
   rw[show n+1-j=n-j+1 by omega]
   rfl
  have e2:sm (fun l=>f n l) (n+1-n)=f n (n-n):=by
   rw[show n+1-n=1 by omega,Nat.sub_self]
   exact zero_add _
  rw[e,e2,add_assoc]
  rfl
theorem sm_split (f : Nat → α) (n : Nat) : ∀ m, sm f (n + m) = sm f n + sm (fun i => f (n + i)) m
 | 0=>(add_zero _).symm
 | m+1=>by
  show sm f (n+m)+f (n+m)=sm f n+(sm (fun i=>f (n+i)) m+f (n+m))
  rw[sm_split f n m,add_assoc]
end
/-! ### Identities -/
inductive RE where
 | v (i:Nat)
 | z
 | o
 | add (a b:RE)
 | mul (a b:RE)
 | neg (a:RE)
 | sub (a b:RE)
instance:Add RE:=⟨.add⟩
instance:Mul RE:=⟨.mul⟩
instance:Neg RE:=⟨.neg⟩
instance:_root_.Sub RE:=⟨.sub⟩
instance:OfNat RE 0:=⟨.z⟩
instance:OfNat RE 1:=⟨.o⟩
abbrev t0:RE := .v 0
abbrev t1:RE := .v 1
abbrev t2:RE := .v 2
abbrev t3:RE := .v 3
abbrev t4:RE := .v 4
abbrev t5:RE := .v 5
abbrev t6:RE := .v 6
abbrev t7:RE := .v 7
def insN (a : Nat) : List Nat → List Nat
 | []=>[a]
 | b :: l=>if Nat.ble a b then a :: b :: l else b :: insN a l
def mergeN (l m:List Nat):List Nat:=l.foldr insN m
def leN : List Nat → List Nat → Bool
 | [],_=>true
 | _ :: _,[]=>false
 | a :: l,b :: m=>if Nat.blt a b then true else if Nat.blt b a then false else leN l m
def insL (a : List Nat) : List (List Nat) → List (List Nat)
 | []=>[a]
 | b :: l=>if leN a b then a :: b :: l else b :: insL a l
def sortL (l:List (List Nat)):List (List Nat):=l.foldr insL []
def prodL (l m:List (List Nat)):List (List Nat):=l.foldr (fun x r=>m.map (mergeN x)++r) []
def RE.nf : RE → List (List Nat) × List (List Nat)
 | .v i=>([[i]],[])
 | .z=>([],[])
 | .o=>([[]],[])
 | .add a b=>(a.nf.1++b.nf.1,a.nf.2++b.nf.2)
 | .neg a=>(a.nf.2,a.nf.1)
 | .sub a b=>(a.nf.1++b.nf.2,a.nf.2++b.nf.1)
 | .mul a b=>(prodL a.nf.1 b.nf.1++prodL a.nf.2 b.nf.2,prodL a.nf.1 b.nf.2++prodL a.nf.2 b.nf.1)
def eqL : List (List Nat) → List (List Nat) → Bool
 | [],[]=>true
 | a :: l,b :: m=>leN a b&&leN b a&&eqL l m
 | _,_=>false
def RE.chk (a b:RE):Bool:=eqL (sortL (a.nf.1++b.nf.2)) (sortL (b.nf.1++a.nf.2))
section
variable {α:Type} [Crg α]
def RE.ev (ρ : List α) : RE → α
 | .v i=>ρ.getD i 0
 | .z=>0
 | .o=>1
 | .add a b=>a.ev ρ+b.ev ρ
 | .mul a b=>a.ev ρ*b.ev ρ
 | .neg a => -a.ev ρ
 | .sub a b=>a.ev ρ-b.ev ρ
def mon (ρ : List α) : List Nat → α
 | []=>1
 | i :: l=>ρ.getD i 0*mon ρ l
def tot (ρ : List α) : List (List Nat) → α
 | []=>0
 | a :: l=>mon ρ a+tot ρ l
theorem mon_ins (ρ : List α) (a : Nat) : ∀ l, mon ρ (insN a l) = ρ.getD a 0 * mon ρ l
 | []=>rfl
 | b :: l=>by
  unfold insN
  split
  ·rfl
  ·show ρ.getD b 0*mon ρ (insN a l)=_
   rw[mon_ins ρ a l,mul_left_comm]
   rfl
theorem mon_merge (ρ : List α) (m : List Nat) : ∀ l, mon ρ (mergeN l m) = mon ρ l * mon ρ m
 | []=>(one_mul _).symm
 | a :: l=>by
  show mon ρ (insN a (mergeN l m))=ρ.getD a 0*mon ρ l*mon ρ m
  rw[mon_ins,mon_merge ρ m l,mul_assoc]
theorem tot_append (ρ : List α) (m : List (List Nat)) : ∀ l, tot ρ (l ++ m) = tot ρ l + tot ρ m
 | []=>(zero_add _).symm
 | a :: l=>by
  show mon ρ a+tot ρ (l++m)=mon ρ a+tot ρ l+tot ρ m
  rw[tot_append ρ m l,add_assoc]
theorem tot_map (ρ : List α) (x : List Nat) : ∀ m, tot ρ (m.map (mergeN x)) = mon ρ x * tot ρ m
 | []=>(mul_zero _).symm
 | a :: m=>by
  show mon ρ (mergeN x a)+tot ρ (m.map (mergeN x))=mon ρ x*(mon ρ a+tot ρ m)
  rw[mon_merge,tot_map ρ x m,mul_add]
theorem tot_prod (ρ : List α) (m : List (List Nat)) : ∀ l, tot ρ (prodL l m) = tot ρ l * tot ρ m
 | []=>(zero_mul _).symm
 | a :: l=>by
  show tot ρ (m.map (mergeN a)++prodL l m)=(mon ρ a+tot ρ l)*tot ρ m
  rw[tot_append,tot_map,tot_prod ρ m l,add_mul]
theorem tot_ins (ρ : List α) (a : List Nat) : ∀ l, tot ρ (insL a l) = mon ρ a + tot ρ l
 | []=>rfl
 | b :: l=>by
  unfold insL
  split
  ·rfl
  ·show mon ρ b+tot ρ (insL a l)=_
   rw[tot_ins ρ a l,add_left_comm]
   rfl
theorem tot_sort (ρ : List α) : ∀ l, tot ρ (sortL l) = tot ρ l
 | []=>rfl
 | a :: l=>by
  show tot ρ (insL a (sortL l))=_
  rw[tot_ins,tot_sort ρ l]
  rfl
theorem leN_eq : ∀ {l m : List Nat}, leN l m = true → leN m l = true → l = m
 | [],[],_,_=>rfl
 | [],_ :: _,_,h=>by cases h
 | _ :: _,[],h,_=>by cases h
 | a :: l,b :: m,h,k=>by
  unfold leN at h k
  by_cases e1:Nat.blt a b=true
  ·rw[if_pos e1]at k
   rw[Nat.blt_eq]at e1
   rw[if_neg (by rw[Nat.blt_eq];omega)]at k
   cases k
  ·by_cases e2:Nat.blt b a=true
   ·rw[if_neg e1,if_pos e2]at h
    cases h
   ·rw[if_neg e1,if_neg e2]at h
    rw[if_neg e2,if_neg e1]at k
    rw[Nat.blt_eq]at e1 e2
    rw[leN_eq h k,show a=b by omega]
theorem eqL_eq : ∀ {l m : List (List Nat)}, eqL l m = true → l = m
 | [],[],_=>rfl
 | [],_ :: _,h=>by cases h
 | _ :: _,[],h=>by cases h
 | a :: l,b :: m,h=>by
  unfold eqL at h
  simp only[Bool.and_eq_true]at h
  rw[leN_eq h.1.1 h.1.2,eqL_eq h.2]
theorem RE.ev_nf (ρ : List α) : ∀ e : RE, e.ev ρ + tot ρ e.nf.2 = tot ρ e.nf.1
 | .v i=>by show ρ.getD i 0+0=ρ.getD i 0*1+0;rw[mul_one]
 | .z=>rfl |> fun h=>(add_zero (0:α)).trans h
 | .o=>rfl
 | .add a b=>by
  show a.ev ρ+b.ev ρ+tot ρ (a.nf.2++b.nf.2)=tot ρ (a.nf.1++b.nf.1)
  rw[tot_append,tot_append,← ev_nf ρ a,← ev_nf ρ b,add_assoc,add_assoc,add_left_comm (b.ev ρ)]
 | .neg a=>by
  show -a.ev ρ+tot ρ a.nf.1=tot ρ a.nf.2
  rw[← ev_nf ρ a,← add_assoc,neg_add,zero_add]
 | .sub a b=>by
  show a.ev ρ-b.ev ρ+tot ρ (a.nf.2++b.nf.1)=tot ρ (a.nf.1++b.nf.2)
  rw[tot_append,tot_append,← ev_nf ρ a,← ev_nf ρ b,sub_def,add_assoc,add_assoc]
  congr 1
  rw[add_left_comm (tot ρ a.nf.2),← add_assoc (-b.ev ρ),neg_add,zero_add]
 | .mul a b=>by
  show a.ev ρ*b.ev ρ+tot ρ (prodL a.nf.1 b.nf.2++prodL a.nf.2 b.nf.1)=tot ρ (prodL a.nf.1 b.nf.1++prodL a.nf.2 b.nf.2)
  rw[tot_append,tot_append,tot_prod,tot_prod,tot_prod,tot_prod,← ev_nf ρ a,← ev_nf ρ b]
  simp only[mul_add,add_mul]
  generalize a.ev ρ=x
  generalize b.ev ρ=y
  generalize tot ρ a.nf.2=u
  generalize tot ρ b.nf.2=w
  simp only[add_assoc]
  congr 1
  rw[add_left_comm (u*w),add_comm (u*w),← add_assoc,add_comm (x*w),add_assoc]
theorem RE.eq (ρ:List α) (a b:RE) (h:RE.chk a b=true):a.ev ρ=b.ev ρ:=by
 have h:=congrArg (tot ρ) (eqL_eq h)
 rw[tot_sort,tot_sort,tot_append,tot_append,← ev_nf ρ a,← ev_nf ρ b]at h
 rw[add_assoc,add_assoc,add_comm (tot ρ b.nf.2)]at h
 exact add_right_cancel h
end
end Crg
end Go.Proofs.YtibaocbpeaejkaaGreat
