/- The reference's normal form; comparison of lists; copies. -/
import Derived.Test.YtibaocbpeaejkaaGreatUc7
import Derived.Test.YtibaocbpeaejkaaGreatUc9
namespace Go.Proofs.YtibaocbpeaejkaaGreat
open Go.RowKit
namespace Fp
set_option maxHeartbeats 4000000 in
theorem refNormal_ok {p:Int} {n:Nat} {a:Nat->Int} (hp:0<p) (hp2:p≤65521) (hn:n≤1048576):FnOK Tryz.prog false 67 [.c (.int .i64 p),.c (il n a)] (.c (il (tl (nf p n a) n) (nf p n a))):=by
  refine fn_ok (E:=E0) E0_ok Tryz.func67 rfl mixed (by kernel_rfl) (by kernel_rfl) ?_
  conv=>whnf
  refine loop_ints (fun i:Nat=>ist [(0,.c (.int .i64 p)),(1,.c (il n a)),(5,.c (.gs 0 0)),(6,.c (.int .i64 i))] [(3,i,nf p i a)]) (fun i=>n-i) (fun i=>i≤n) 0 rfl (Weak.ints [none] rfl ⟨rfl,trivial⟩ ⟨⟨_,rfl,rfl⟩,⟨_,_,rfl,rfl,fun _ _ _ _=>rfl⟩,rfl,⟨_,rfl,rfl⟩,trivial⟩) (Nat.zero_le _) fun i hi=>?_
  conv=>whnf
  refine bcase (fun(h:decide ((i:Int)<n)=true)=>?_) fun(h:decide ((i:Int)<n)=false)=>?_
  · have h:=of_decide_eq_true h
    conv=>whnf
    refine⟨by omega,?_⟩
    conv=>whnf
    refine⟨by omega,?_⟩
    conv=>whnf
    refine⟨_,refMod_ok (a:=a i) hp hp2,?_⟩
    conv=>whnf
    refine⟨by show i+1≤16777216;omega,fun x y hx hy=>?_,?_⟩
    · obtain rfl : x = 0 := by have h : x < 1 := hx
                               omega
      obtain rfl : y = 0 := by have h : y < 1 := hy
                               omega
      exact⟨rfl,fun h=>by cases h⟩
    conv=>whnf
    refine⟨i64 (by omega) (by omega),?_⟩
    conv=>whnf
    refine⟨i+1,by omega,Weak.ints [some 0] rfl ⟨⟨_,rfl,rfl,rfl,rfl,rfl,fun j hj=>?_⟩,trivial⟩ ⟨⟨_,rfl,rfl⟩,⟨_,_,rfl,rfl,fun _ _ _ _=>rfl⟩,⟨_,rfl,rfl,rfl⟩,⟨_,rfl,rfl⟩,trivial⟩,by omega⟩
    refine appI ?_ (show i+1≤i+1 from Nat.le_refl _) hj
    exact nf_succ p i a j
  · have h:=of_decide_eq_false h
    obtain rfl:i=n:=by omega
    conv=>whnf
    refine loop_ints (fun m:Nat=>ist [(5,.c (.gs 0 0)),(7,.c (.int .i64 m))] [(3,i,nf p i a)]) (fun m=>m) (fun m=>m≤i/\tl (nf p i a) m=tl (nf p i a) i) i rfl (Weak.ints [some 0] rfl ⟨⟨_,rfl,rfl,rfl,rfl,rfl,fun _ _=>rfl⟩,trivial⟩ ⟨⟨_,rfl,rfl,rfl⟩,⟨_,rfl,rfl⟩,trivial⟩) ⟨Nat.le_refl _,rfl⟩ fun m ⟨hm,ht⟩=>?_
    conv=>whnf
    refine bcase (fun(h:gw true (decide ((0:Int)<m))=true)=>?_) fun(h:gw true (decide ((0:Int)<m))=false)=>?_
    · have h:=of_decide_eq_true (gw_true.1 h)
      obtain⟨k,rfl⟩:∃ k,m=k+1:=⟨m-1,by omega⟩
      have ek:(((k+1:Nat):Int)-1).toNat=k:=by omega
      conv=>whnf
      refine⟨i64 (by omega) (by omega),?_⟩
      conv=>whnf
      refine⟨by omega,?_⟩
      conv=>whnf
      refine⟨by show(((k+1:Nat):Int)-1)<(i:Int);omega,?_⟩
      conv=>whnf
      refine bcase (fun(h1:decide (nf p i a (((k+1:Nat):Int)-1).toNat=0)=true)=>?_) fun(h1:decide (nf p i a (((k+1:Nat):Int)-1).toNat=0)=false)=>?_
      · have h1:=of_decide_eq_true h1
        rw[ek]at h1
        conv=>whnf
        refine⟨i64 (by omega) (by omega),?_⟩
        conv=>whnf
        exact⟨k,by omega,Weak.ints [some 0] rfl ⟨⟨_,rfl,rfl,rfl,rfl,rfl,fun _ _=>rfl⟩,trivial⟩ ⟨⟨_,rfl,rfl,rfl⟩,⟨_,rfl,by omega⟩,trivial⟩,by omega,by rw[← ht];simp[tl,h1]⟩
      · have h1:=of_decide_eq_false h1
        rw[ek]at h1
        conv=>whnf
        refine⟨by omega,by omega,?_⟩
        conv=>whnf
        refine⟨by show((k+1:Nat):Int)≤(i:Int);omega,?_⟩
        conv=>whnf
        refine⟨fun _ _ _ _=>rfl,?_⟩
        conv=>whnf
        refine⟨rfl,subRow (by rw[← ht];simp[tl,h1]) fun j _=>?_⟩
        show nf p i a _=_
        congr 1
        show Int.toNat 0+j=j
        omega
    · have h:¬(0:Int)<m:=of_decide_eq_false (gw_false.1 h)
      obtain rfl:m=0:=by omega
      conv=>whnf
      refine⟨by omega,by omega,?_⟩
      conv=>whnf
      refine⟨by show((0:Nat):Int)≤(i:Int);omega,?_⟩
      conv=>whnf
      refine⟨fun _ _ _ _=>rfl,?_⟩
      conv=>whnf
      exact⟨rfl,subRow (by rw[← ht];rfl) fun j hj=>absurd hj (by rw[← ht];exact Nat.not_lt_zero j)⟩
set_option maxHeartbeats 4000000 in
theorem degree_ok {p:Int} {n:Nat} {a:Nat->Int} (hp:0<p) (hp2:p≤65521) (hn:n≤1048576):FnOK Tryz.prog false 38 [.c (.int .i64 p),.c (il n a)] (.c (.int .i64 ((tl (nf p n a) n:Nat)-1))):=by
  refine fn_ok (E:=E0) E0_ok Tryz.func38 rfl mixed (by kernel_rfl) (by kernel_rfl) ?_
  have h:=tl_le (nf p n a) n
  conv=>whnf
  refine .inr ?_
  conv=>whnf
  refine⟨_,refNormal_ok hp hp2 hn,?_⟩
  conv=>whnf
  refine⟨i64 (by show _≤((tl (nf p n a) n:Nat):Int)-1;omega) (by show((tl (nf p n a) n:Nat):Int)-1<_;omega),?_⟩
  conv=>whnf
  exact⟨rfl,Sub.refl _⟩
def same (n m:Nat) (a b:Nat->Int):Prop:=n=m/\∀ i,i<n->a i=b i
open Classical in
set_option maxHeartbeats 4000000 in
theorem ints_ok {n m:Nat} {a b:Nat->Int} (hn:n≤1048576) (hm:m≤1048576):FnOK Tryz.prog false 26 [.c (il n a),.c (il m b)] (.c (.bool (decide (same n m a b)))):=by
  refine fn_ok (E:=E0) E0_ok Tryz.func26 rfl mixed (by kernel_rfl) (by kernel_rfl) ?_
  conv=>whnf
  refine bcase (fun(h:(!decide ((n:Int)=m))=true)=>?_) fun(h:(!decide ((n:Int)=m))=false)=>?_
  · have h:¬(n:Int)=m:=by simpa using h
    conv=>whnf
    exact⟨rfl,subB (Eq.symm (decide_eq_false fun hs=>h (by rw[hs.1])))⟩
  have h:(n:Int)=m:=by simpa using h
  obtain rfl:n=m:=by omega
  conv=>whnf
  refine loop_ints (fun i:Nat=>ist [(0,.c (il n a)),(1,.c (il n b)),(5,.c (.int .i64 i))] []) (fun i=>n-i) (fun i=>i≤n/\∀ j,j<i->a j=b j) 0 rfl (Weak.ints [] rfl trivial ⟨⟨_,_,rfl,rfl,fun _ _ _ _=>rfl⟩,⟨_,_,rfl,rfl,fun _ _ _ _=>rfl⟩,⟨_,rfl,rfl⟩,trivial⟩) ⟨Nat.zero_le _,fun j hj=>absurd hj (Nat.not_lt_zero j)⟩ fun i ⟨hi,he⟩=>?_
  conv=>whnf
  refine bcase (fun(h:decide ((i:Int)<n)=true)=>?_) fun(h:decide ((i:Int)<n)=false)=>?_
  · have h:=of_decide_eq_true h
    conv=>whnf
    refine⟨by omega,?_⟩
    conv=>whnf
    refine⟨by omega,?_⟩
    conv=>whnf
    refine⟨by omega,?_⟩
    conv=>whnf
    refine⟨by omega,?_⟩
    conv=>whnf
    refine bcase (fun(h1:(!decide (a i=b i))=true)=>?_) fun(h1:(!decide (a i=b i))=false)=>?_
    · have h1:¬ a i=b i:=by simpa using h1
      conv=>whnf
      exact⟨rfl,subB (Eq.symm (decide_eq_false fun hs=>h1 (hs.2 i (by omega))))⟩
    · have h1:a i=b i:=by simpa using h1
      conv=>whnf
      refine⟨i64 (by omega) (by omega),?_⟩
      conv=>whnf
      refine⟨i+1,by omega,Weak.ints [] rfl trivial ⟨⟨_,_,rfl,rfl,fun _ _ _ _=>rfl⟩,⟨_,_,rfl,rfl,fun _ _ _ _=>rfl⟩,⟨_,rfl,rfl⟩,trivial⟩,by omega,fun j hj=>?_⟩
      by_cases e:j=i
      · rw[e];exact h1
      · exact he j (by omega)
  · have h:=of_decide_eq_false h
    obtain rfl:i=n:=by omega
    conv=>whnf
    exact⟨rfl,subB (Eq.symm (decide_eq_true ⟨rfl,he⟩))⟩
theorem appF_zero (f g:Nat->Nat->Cell) (x y:Nat):appF 0 f g x y=g x y:=by
  unfold appF
  rw[if_neg (Nat.not_lt_zero x),Nat.sub_zero]
theorem cloA (f:Nat->Nat->Cell) (a:Nat->Int) (x y:Nat):(appF 0 f (fun i _ => .int .i64 (a i)) x y).clos=true:=by rw[appF_zero];rfl
set_option maxHeartbeats 4000000 in
theorem clone_ok {n:Nat} {a:Nat->Int} (hn:n≤1048576):FnOK Tryz.prog false 129 [.c (il n a)] (.c (il n a)):=by
  rcases Nat.eq_zero_or_pos n with rfl | h0
  · exact cloneIds_ok (g':=fun i _ => .int .i64 (a i)) _ (by decide)
  refine fn_ok (E:=E0) E0_ok Tryz.func129 rfl mixed (by kernel_rfl) (by kernel_rfl) ?_
  conv=>whnf
  refine⟨h0,?_⟩
  conv=>whnf
  refine⟨by show 0+n≤16777216;omega,fun x y hx hy=>?_,?_⟩
  · obtain rfl : y = 0 := by have h : y < 1 := hy
                             omega
    exact⟨rfl,fun h=>by cases h⟩
  conv=>whnf
  refine⟨fun x y _ _=>?_,?_⟩
  · exact cloA (rowF 1 []) a x y
  conv=>whnf
  refine⟨rfl,subRowG (Nat.zero_add n) fun x y _ _=>?_⟩
  exact appF_zero (rowF 1 []) (fun i _=>Cell.int .i64 (a i)) x y
end Fp
end Go.Proofs.YtibaocbpeaejkaaGreat
/- Inverses modulo a prime, as Euclid's algorithm finds them; plain arithmetic. -/
namespace Go.Proofs.YtibaocbpeaejkaaGreat
namespace Fp
structure Eu (a m g r u v : Int) : Prop where
 r0:0≤r
 g0:0<g
 gm:g≤m
 rm:r≤m
 u1 : -m≤u
 u2:u≤m
 v1 : -m≤v
 v2:v≤m
 gd:m∣g-u*a
 rd:m∣r-v*a
 det:∃ s:Int,(s=1∨s = -1)/\0≤s*u/\s*v≤0/\s*(u*r-v*g)=m
 com:∀ d:Int,d∣g->d∣r->d∣a/\d∣m
theorem Eu.start {a m : Int} (h0 : 0 < a) (h1 : a < m) : Eu a m a m 1 0 where
 r0:=by omega
 g0:=h0
 gm:=by omega
 rm:=by omega
 u1:=by omega
 u2:=by omega
 v1:=by omega
 v2:=by omega
 gd:=⟨0,by omega⟩
 rd:=⟨1,by omega⟩
 det:=⟨1,.inl rfl,by omega,by omega,by omega⟩
 com:=fun d h1 h2=>⟨h1,h2⟩
theorem Eu.quo {a m g r u v:Int} (h:Eu a m g r u v) (hr:0<r):Int.tdiv g r=g / r/\0≤g / r/\g / r≤m/\g / r*r≤g/\g-g / r*r=g%r/\0≤g / r*r:=by
 have h1:Int.tdiv g r=g / r:=Int.tdiv_eq_ediv_of_nonneg (by have:=h.g0;omega)
 have h2:0≤g / r:=Int.ediv_nonneg (by have:=h.g0;omega) (by omega)
 have h3:=Int.mul_ediv_add_emod g r
 have h4:=Int.emod_nonneg g (by omega:r≠0)
 have h5:g / r≤g:=Int.ediv_le_self _ (by have:=h.g0;omega)
 have h6:g / r*r=r*(g / r):=Int.mul_comm _ _
 have h7:=Int.mul_nonneg h2 (by omega:0≤r)
 have:=h.gm
 exact⟨h1,h2,by omega,by omega,by omega,h7⟩
theorem Eu.step {a m g r u v:Int} (h:Eu a m g r u v) (hr:0<r):Eu a m r (g-g / r*r) v (u-g / r*v) /\ -(2*m)≤g / r*v/\g / r*v≤2*m/\(g-g / r*r).toNat<r.toNat:=by
 obtain⟨q1,q2,q3,q4,q5,q6⟩:=h.quo hr
 have h4:=Int.emod_nonneg g (by omega:r≠0)
 have h5:=Int.emod_lt_of_pos g hr
 obtain⟨s,hs,s1,s2,s3⟩:=h.det
 generalize g / r=q at *
 have e1 : -s*(v*(g-q*r)-(u-q*v)*r)=m:=by rw[← s3];grind
 have e2:0 ≤ -s*v:=by have : -s*v = -(s*v):=Int.neg_mul _ _;omega
 have e3 : -s*(u-q*v) = -(s*u)+q*(s*v):=by grind
 have e4:q*(s*v)≤0:=by
  have:=Int.mul_nonneg q2 (by omega:0 ≤ -(s*v))
  have e:q * -(s*v) = -(q*(s*v)):=Int.mul_neg _ _
  omega
 have e5 : -s*(u-q*v)≤0:=by omega
 -- the new cofactor is not greater than m
 have e6:0≤(-s*v)*(g-q*r):=Int.mul_nonneg e2 (by omega)
 have e7 : -s*(v*(g-q*r)-(u-q*v)*r)=(-s*v)*(g-q*r)+(-(-s*(u-q*v)))*r:=by grind
 have e8:(-(-s*(u-q*v)))*1≤(-(-s*(u-q*v)))*r:=Int.mul_le_mul_of_nonneg_left (by omega) (by omega)
 have e9 : -(-s*(u-q*v))≤m:=by omega
 have e10 : -m≤u-q*v/\u-q*v≤m:=by
  rcases hs with rfl | rfl <;> omega
 have:=h.u1
 have:=h.u2
 have:=h.v1
 have:=h.v2
 refine⟨⟨by omega,hr,h.rm,by have:=h.gm;omega,h.v1,h.v2,e10.1,e10.2,h.rd,?_,⟨-s,by rcases hs with rfl | rfl <;> simp,e2,e5,e1⟩,fun d h1 h2=>?_⟩,by omega,by omega,by omega⟩
 ·obtain⟨x,hx⟩:=h.gd
  obtain⟨y,hy⟩:=h.rd
  exact⟨x-q*y,by grind⟩
 ·refine h.com d ?_ h1
  have:g=(g-q*r)+q*r:=by omega
  rw[this]
  exact Int.dvd_add h2 (Int.dvd_mul_of_dvd_right h1)
theorem Pr.div {p g:Int} (hp:Pr p) (hg:0<g) (hlt:g<p) (hd:g∣p):g=1:=by
 obtain⟨k,hk⟩:=hd
 rcases Int.lt_or_le 1 g with h | h
 ·exfalso
  have hk0:0<k:=by
   rcases Int.lt_or_le 0 k with h1 | h1
   ·exact h1
   ·have:=Int.mul_nonneg (by omega:0≤g) (by omega:0 ≤ -k)
    have e:g * -k = -(g*k):=Int.mul_neg _ _
    omega
  have hk1:1<k:=by
   rcases Int.lt_or_le 1 k with h1 | h1
   ·exact h1
   ·obtain rfl:k=1:=by omega
    omega
  rcases Int.lt_or_le g k with h2 | h2
  ·have:g*g≤g*k:=Int.mul_le_mul_of_nonneg_left (by omega) (by omega)
   exact hp g (by omega) (by omega) (by rw[hk];exact Int.mul_emod_right _ _)
  ·have:g*k ≥ k*k:=Int.mul_le_mul_of_nonneg_right h2 (by omega)
   exact hp k (by omega) (by omega) (by rw[hk];exact Int.mul_emod_left _ _)
 ·omega
theorem Eu.done {a m g u v:Int} (h:Eu a m g 0 u v) (h0:0<a) (h1:a<m) (hp:Pr m):g=1/\(u%m*a)%m=1%m:=by
 obtain⟨d1,d2⟩:=h.com g (Int.dvd_refl _) (Int.dvd_zero _)
 have hg:g≤a:=Int.le_of_dvd h0 d1
 have e:=hp.div h.g0 (by omega) d2
 refine⟨e,?_⟩
 subst e
 obtain⟨x,hx⟩:=h.gd
 rw[Int.mul_emod,Int.emod_emod,← Int.mul_emod]
 have:u*a=1+m * -x:=by grind
 rw[this,Int.add_mul_emod_self_left]
open Classical in
noncomputable def inv (c p:Int):Int:=if h:∃ x,0≤x/\x<p/\(x*c)%p=1 then h.choose else 0
theorem inv_eq {c p x:Int} (h0:0≤x) (h1:x<p) (h:(x*c)%p=1):x=inv c p:=by
 have hex:∃ x,0≤x/\x<p/\(x*c)%p=1:=⟨x,h0,h1,h⟩
 unfold inv
 rw[dif_pos hex]
 obtain⟨g1,g2,g3⟩:=hex.choose_spec
 generalize hex.choose=y at g1 g2 g3
 have e1:=Int.mul_ediv_add_emod (x*c) p
 have e2:=Int.mul_ediv_add_emod (y*c) p
 rw[h]at e1
 rw[g3]at e2
 generalize x*c / p=k at e1
 generalize y*c / p=l at e2
 have e3:x-y=p*(y*k-x*l):=by grind
 have e4:p∣x-y:=⟨_,e3⟩
 rcases Int.lt_trichotomy (x-y) 0 with h2 | h2 | h2
 ·have:=Int.le_of_dvd (by omega:0 < -(x-y)) ((Int.dvd_neg).2 e4)
  omega
 ·omega
 ·have:=Int.le_of_dvd h2 e4
  omega
theorem Eu.inv {c m g u v:Int} (h:Eu (c%m) m g 0 u v) (h0:0<c%m) (hm:1<m) (hp:Pr m):g=1/\u%m=Fp.inv c m/\(Fp.inv c m*c)%m=1:=by
 obtain⟨h1,h2⟩:=h.done h0 (Int.emod_lt_of_pos c (by omega)) hp
 have h3:(u%m*c)%m=1:=by
  rw[Int.mul_emod,Int.emod_emod]at h2 ⊢
  rw[Int.emod_emod]at h2
  rw[h2]
  exact Int.emod_eq_of_lt (by omega) hm
 have h4:=inv_eq (Int.emod_nonneg u (by omega:m≠0)) (Int.emod_lt_of_pos u (by omega)) h3
 exact⟨h1,h4,by rw[← h4];exact h3⟩
theorem inv_range {c p:Int} (hp:0<p):0≤inv c p/\inv c p<p:=by
 unfold inv
 split
 ·rename_i h
  exact⟨h.choose_spec.1,h.choose_spec.2.1⟩
 ·omega
end Fp
end Go.Proofs.YtibaocbpeaejkaaGreat
/- Inverses: Euclid's algorithm in arith and in the reference. -/
namespace Go.Proofs.YtibaocbpeaejkaaGreat
open Go.RowKit
namespace Fp
set_option maxHeartbeats 4000000 in
theorem aresidue_ok {a p:Int} (hp:0<p) (hp2:p≤65521):FnOK Tryz.prog false 174 [.c (.int .i64 a),.c (.int .i64 p)] (.c (.int .i64 (a%p))):=by
 refine fn_ok (E:=E0) E0_ok Tryz.func174 rfl mixed (by kernel_rfl) (by kernel_rfl) ?_
 have hb:=tmod_bounds (a:=a) hp
 conv=>whnf
 refine⟨by omega,?_⟩
 conv=>whnf
 refine bcase (fun(h1:decide (Int.tmod a p<0)=true)=>?_) fun(h1:decide (Int.tmod a p<0)=false)=>?_
 ·have h1:=of_decide_eq_true h1
  conv=>whnf
  refine⟨i64 (by omega) (by omega),?_⟩
  conv=>whnf
  exact⟨rfl,subI (tmod_neg hp h1)⟩
 ·have h1:=of_decide_eq_false h1
  conv=>whnf
  exact⟨rfl,subI (tmod_pos hp h1)⟩
theorem aresidue_to {a p q x:Int} (e:q=p) (ex:a%p=x) (hp:0<p) (hp2:p≤65521):FnOK Tryz.prog false 174 [.c (.int .i64 a),.c (.int .i64 q)] (.c (.int .i64 x)):=by
 subst e ex;exact aresidue_ok hp hp2
theorem IntKind.wrap_i64_in {n:Int} (h1 : -9223372036854775808≤n) (h2:n≤9223372036854775807):IntKind.i64.wrap n=n:=by
 rw[IntKind.wrap_i64];omega
set_option maxHeartbeats 4000000 in
theorem inRange_ok {n:Int} (h1:1≤n) (h2:n≤65521):FnOK Tryz.prog false 72 [.c (.int .i64 n)] (.c (.bool true)):=by
 refine fn_ok (E:=E0) E0_ok Tryz.func72 rfl mixed (by kernel_rfl) (by kernel_rfl) ?_
 conv=>whnf
 refine bpos (show gw true (decide (1≤n))=true by simp[gw];omega) ?_
 conv=>whnf
 exact⟨rfl,subB (decide_eq_true (by omega))⟩
set_option maxHeartbeats 4000000 in
theorem refInRange_ok {n:Int} (h1:1≤n) (h2:n≤65521):FnOK Tryz.prog false 99 [.c (.int .i64 n)] (.c (.bool true)):=by
 refine fn_ok (E:=E0) E0_ok Tryz.func99 rfl mixed (by kernel_rfl) (by kernel_rfl) ?_
 conv=>whnf
 refine bpos (show gw true (decide (1≤n))=true by simp[gw];omega) ?_
 conv=>whnf
 exact⟨rfl,subB (decide_eq_true (by omega))⟩
set_option maxHeartbeats 4000000 in
theorem refInverse_ok {c p:Int} (hp:md p) (hc:0<c%p):FnOK Tryz.prog false 57 [.c (.int .i64 c),.c (.int .i64 p)] (.t2 (.c (.int .i64 (inv c p))) (.c (.int .i64 0))):=by
 obtain⟨h1,h2,hP⟩:=hp
 refine fn_ok (E:=E0) E0_ok Tryz.func57 rfl mixed (by kernel_rfl) (by kernel_rfl) ?_
 conv=>whnf
 refine⟨_,refInRange_ok (by omega) h2,?_⟩
 conv=>whnf
 refine⟨_,refMod_ok (a:=c) (by omega) h2,?_⟩
 conv=>whnf
 refine loop_ints (fun((g,r,u,v):Int × Int × Int × Int)=>ist [(1,.c (.int .i64 p)),(6,.c (.int .i64 g)),(7,.c (.int .i64 r)),(8,.c (.int .i64 u)),(9,.c (.int .i64 v))] []) (fun(_,r,_,_)=>r.toNat) (fun(g,r,u,v)=>Eu (c%p) p g r u v) (c%p,p,1,0) rfl (Weak.ints [] rfl trivial ⟨⟨_,rfl,rfl⟩,⟨_,rfl,rfl⟩,⟨_,rfl,rfl⟩,⟨_,rfl,rfl⟩,⟨_,rfl,rfl⟩,trivial⟩) (Eu.start hc (Int.emod_lt_of_pos c (by omega))) ?_
 rintro ⟨g,r,u,v⟩ hE
 have hE:Eu (c%p) p g r u v:=hE
 conv=>whnf
 refine bcase (fun(h:decide (0<r)=true)=>?_) fun(h:decide (0<r)=false)=>?_
 ·have h:=of_decide_eq_true h
  obtain⟨q1,q2,q3,q4,q5,q6⟩:=hE.quo h
  obtain⟨s1,s2,s3,s4⟩:=hE.step h
  rw[← q1]at q2 q3 q4 q5 q6 s1 s2 s3 s4
  have:=hE.u1
  have:=hE.u2
  have:=hE.gm
  conv=>whnf
  refine⟨by omega,i64 (by omega) (by omega),?_⟩
  conv=>whnf
  refine⟨i64 (by omega) (by omega),?_⟩
  conv=>whnf
  refine⟨i64 (by omega) (by omega),?_⟩
  conv=>whnf
  refine⟨i64 (by omega) (by omega),?_⟩
  conv=>whnf
  refine⟨i64 (by omega) (by omega),?_⟩
  conv=>whnf
  exact⟨(r,g-Int.tdiv g r*r,v,u-Int.tdiv g r*v),s4,Weak.ints [] rfl trivial ⟨⟨_,rfl,rfl⟩,⟨_,rfl,rfl⟩,⟨_,rfl,rfl⟩,⟨_,rfl,rfl⟩,⟨_,rfl,rfl⟩,trivial⟩,s1⟩
 ·have h:=of_decide_eq_false h
  obtain rfl:r=0:=by have:=hE.r0;omega
  obtain⟨e1,e2,e3⟩:=hE.inv hc (by omega) hP
  subst e1
  conv=>whnf
  refine⟨_,refMod_ok (a:=u) (by omega) h2,?_⟩
  conv=>whnf
  refine⟨rfl,?_⟩
  rw[e2]
  exact Sub.refl _
set_option maxHeartbeats 4000000 in
theorem xgcd_ok {a p:Int} (hp:md p) (h0:0<a) (ha:a<p):FnOK Tryz.prog false 173 [.c (.int .i64 a),.c (.int .i64 p)] (.t4 (.c (.int .i64 1)) (.c (.int .i64 (inv a p))) (.c (.int .i64 (Int.tdiv (1-inv a p*a) p))) (.c (.int .i64 0))):=by
 obtain⟨h1,h2,hP⟩:=hp
 have ea:a%p=a:=Int.emod_eq_of_lt (by omega) ha
 have hi:=inv_range (c:=a) (p:=p) (by omega)
 refine fn_ok (E:=E0) E0_ok Tryz.func173 rfl mixed (by kernel_rfl) (by kernel_rfl) ?_
 conv=>whnf
 refine bpos (show gw false (decide (a < -2147483647))=true by simp[gw];omega) ?_
 conv=>whnf
 refine bpos (show gw false (decide (2147483647<a))=true by simp[gw];omega) ?_
 conv=>whnf
 refine bpos (show gw false (decide (p < -2147483647))=true by simp[gw];omega) ?_
 conv=>whnf
 refine bneg (show decide (2147483647<p)=false by simp;omega) ?_
 conv=>whnf
 refine bneg (show decide (p=0)=false by simp;omega) ?_
 conv=>whnf
 refine loop_ints (fun((g,r,u,v):Int × Int × Int × Int)=>ist [(0,.c (.int .i64 a)),(1,.c (.int .i64 p)),(4,.c (.int .i64 g)),(9,.c (.int .i64 r)),(5,.c (.int .i64 u)),(8,.c (.int .i64 v))] []) (fun(_,r,_,_)=>r.toNat) (fun(g,r,u,v)=>Eu (a%p) p g r u v) (a,p,1,0) rfl ?_ (by show Eu (a%p) p a p 1 0;rw[ea];exact Eu.start h0 ha) ?_
 ·exact Weak.ints [] rfl trivial ⟨⟨_,rfl,rfl⟩,⟨_,rfl,rfl⟩,⟨_,rfl,rfl⟩,⟨_,rfl,rfl⟩,⟨_,rfl,rfl⟩,⟨_,rfl,rfl⟩,trivial⟩
 rintro ⟨g,r,u,v⟩ hE
 have hE:Eu (a%p) p g r u v:=hE
 conv=>whnf
 refine bcase (fun(h:(!decide (r=0))=true)=>?_) fun(h:(!decide (r=0))=false)=>?_
 ·have h:r≠0:=by simpa using h
  have h:0<r:=by have:=hE.r0;omega
  obtain⟨q1,q2,q3,q4,q5,q6⟩:=hE.quo h
  obtain⟨s1,s2,s3,s4⟩:=hE.step h
  rw[← q1]at q2 q3 q4 q5 q6 s1 s2 s3 s4
  have:=hE.u1
  have:=hE.u2
  have:=hE.gm
  conv=>whnf
  refine⟨by omega,i64 (by omega) (by omega),?_⟩
  conv=>whnf
  refine⟨i64 (by omega) (by omega),?_⟩
  conv=>whnf
  refine⟨i64 (by omega) (by omega),?_⟩
  conv=>whnf
  refine⟨i64 (by omega) (by omega),?_⟩
  conv=>whnf
  refine⟨i64 (by omega) (by omega),?_⟩
  conv=>whnf
  exact⟨(r,g-Int.tdiv g r*r,v,u-Int.tdiv g r*v),s4,Weak.ints [] rfl trivial ⟨⟨_,rfl,rfl⟩,⟨_,rfl,rfl⟩,⟨_,rfl,rfl⟩,⟨_,rfl,rfl⟩,⟨_,rfl,rfl⟩,⟨_,rfl,rfl⟩,trivial⟩,s1⟩
 ·obtain rfl:r=0:=by simpa using h
  obtain⟨e1,e2,e3⟩:=hE.inv (by omega) (by omega) hP
  subst e1
  conv=>whnf
  have em:Int.tdiv (if IntKind.i64.wrap (-p) > p then IntKind.i64.wrap (-p)else p) 1=p:=by
   rw[IntKind.wrap_i64_in (by omega) (by omega),if_neg (by omega),Int.tdiv_one]
  refine⟨by omega,by rw[em];exact i64 (by omega) (by omega),?_⟩
  conv=>whnf
  refine⟨_,aresidue_to (a:=u) (x:=inv a p) em e2 (by omega) h2,?_⟩
  conv=>whnf
  have b0:0≤inv a p*a:=by exact Int.mul_nonneg hi.1 (by omega)
  have b1:inv a p*a≤65521*65521:=by exact Int.mul_le_mul (by omega) (by omega) (by omega) (by omega)
  have b2:Int.natAbs (Int.tdiv (1-inv a p*a) p)≤Int.natAbs (1-inv a p*a):=by
   rw[Int.natAbs_tdiv];exact Nat.div_le_self _ _
  refine⟨i64 (by omega) (by omega),?_⟩
  conv=>whnf
  refine⟨i64 (by omega) (by omega),?_⟩
  conv=>whnf
  refine⟨by omega,i64 (by omega) (by omega),?_⟩
  conv=>whnf
  exact⟨rfl,Sub.refl _⟩
theorem xgcd_to {a p y:Int} (e:inv a p=y) (hp:md p) (h0:0<a) (ha:a<p):FnOK Tryz.prog false 173 [.c (.int .i64 a),.c (.int .i64 p)] (.t4 (.c (.int .i64 1)) (.c (.int .i64 y)) (.c (.int .i64 (Int.tdiv (1-y*a) p))) (.c (.int .i64 0))):=by
 subst e;exact xgcd_ok hp h0 ha
set_option maxHeartbeats 4000000 in
theorem ainverse_ok {c p:Int} (hp:md p) (hc:0<c%p):FnOK Tryz.prog false 134 [.c (.int .i64 c),.c (.int .i64 p)] (.t2 (.c (.int .i64 (inv c p))) (.c (.int .i64 0))):=by
 have hlt:=Int.emod_lt_of_pos c (by have:=hp.1;omega:0<p)
 have e:inv (c%p) p=inv c p:=by
  have e:∀ x:Int,(x*(c%p))%p=(x*c)%p:=fun x=>by rw[Int.mul_emod,Int.emod_emod,← Int.mul_emod]
  by_cases h:∃ x,0≤x/\x<p/\(x*(c%p))%p=1
  ·have h1:=h.choose_spec
   rw[show inv (c%p) p=h.choose by unfold inv;rw[dif_pos h]]
   exact inv_eq h1.1 h1.2.1 (by rw[← e];exact h1.2.2)
  ·unfold inv
   rw[dif_neg h,dif_neg fun⟨x,h1,h2,h3⟩=>h ⟨x,h1,h2,by rw[e];exact h3⟩]
 refine fn_ok (E:=E0) E0_ok Tryz.func134 rfl mixed (by kernel_rfl) (by kernel_rfl) ?_
 conv=>whnf
 refine⟨_,inRange_ok (by have:=hp.1;omega) hp.2.1,?_⟩
 conv=>whnf
 refine⟨_,aresidue_ok (a:=c) (by have:=hp.1;omega) hp.2.1,?_⟩
 conv=>whnf
 refine⟨_,xgcd_to e hp hc hlt,?_⟩
 conv=>whnf
 exact⟨rfl,Sub.refl _⟩
set_option maxHeartbeats 4000000 in
theorem inverse_ok {c p:Int} (hp:md p) (hc:0<c%p):FnOK Tryz.prog false 108 [.c (.int .i64 c),.c (.int .i64 p)] (.c (.int .i64 (inv c p))):=by
 refine fn_ok (E:=E0) E0_ok Tryz.func108 rfl mixed (by kernel_rfl) (by kernel_rfl) ?_
 conv=>whnf
 refine⟨_,ainverse_ok hp hc,?_⟩
 conv=>whnf
 exact⟨rfl,Sub.refl _⟩
end Fp
end Go.Proofs.YtibaocbpeaejkaaGreat
/- Products of lists modulo a prime; a copy that may be written. -/
namespace Go.Proofs.YtibaocbpeaejkaaGreat
open Go.RowKit
namespace Fp
def cv (F G : Nat → Int) : Nat → Nat → Int
 | 0,_=>0
 | i+1,n=>cv F G i n+if i≤n then F i*G (n-i)else 0
def ps (p:Int) (F G:Nat->Int) (i j n:Nat):Int:=(cv F G i n+if i≤n/\n<i+j then F i*G (n-i)else 0)%p
theorem ps_zero {p:Int} {F G:Nat->Int} {i n:Nat}:ps p F G i 0 n=cv F G i n%p:=by
 unfold ps
 rw[if_neg (by omega),Int.add_zero]
theorem ps_step {p:Int} {F G:Nat->Int} {i j n:Nat}:(if n=i+j then(ps p F G i j n+F i*G j)%p else ps p F G i j n)=ps p F G i (j+1) n:=by
 unfold ps
 by_cases e:n=i+j
 ·subst e
  rw[if_pos rfl,if_neg (by omega),if_pos (by omega),Int.add_zero,Nat.add_sub_cancel_left,Int.emod_add_emod]
 ·rw[if_neg e]
  by_cases h:i≤n/\n<i+j
  ·rw[if_pos h,if_pos (by omega)]
  ·rw[if_neg h,if_neg (by omega)]
theorem ps_full {p:Int} {F G:Nat->Int} {i m n:Nat} (hG:∀ j,m≤j->G j=0):ps p F G i m n=ps p F G (i+1) 0 n:=by
 rw[ps_zero,show cv F G (i+1) n=cv F G i n+if i≤n then F i*G (n-i)else 0 from rfl]
 unfold ps
 by_cases h:i≤n
 ·by_cases h2:n<i+m
  ·rw[if_pos ⟨h,h2⟩,if_pos h]
  ·rw[if_neg (by omega),if_pos h,hG (n-i) (by omega),Int.mul_zero]
 ·rw[if_neg (by omega),if_neg h]
theorem ps_range {p:Int} {F G:Nat->Int} {i j n:Nat} (hp:0<p):0≤ps p F G i j n/\ps p F G i j n<p:=⟨Int.emod_nonneg _ (by omega),Int.emod_lt_of_pos _ hp⟩
def pr (p:Int) (F G:Nat->Int) (n k:Nat):Int:=cv F G n k%p
theorem tl_zero {a : Nat → Int} : ∀ {n : Nat}, (∀ i, i < n → a i = 0) → tl a n = 0
 | 0,_=>rfl
 | n+1,h=>by
  unfold tl
  rw[if_pos (h n (by omega)),tl_zero fun i hi=>h i (by omega)]
theorem subNil {a:Nat->Int} {n:Nat} (h:n=0):Sub (.c .nil) (.c (il n a)):=by
 subst h
 intro D w v hv
 exact⟨none,0,hv,Nat.le_refl _,fun h=>absurd h (Nat.lt_irrefl _)⟩
theorem cv_zero {F G : Nat → Int} (hG : ∀ j, G j = 0) : ∀ {i n : Nat}, cv F G i n = 0
 | 0,_=>rfl
 | i+1,n=>by
  unfold cv
  rw[cv_zero hG,hG,Int.mul_zero]
  simp
theorem mul_bounds {p x y:Int} (hp:p≤65521) (hx:0≤x/\x<p) (hy:0≤y/\y<p):0≤x*y/\x*y≤65521*65521 :=
 ⟨Int.mul_nonneg hx.1 hy.1,Int.mul_le_mul (by omega) (by omega) hy.1 (by omega)⟩
set_option maxHeartbeats 4000000 in
theorem times_ok {p:Int} {n m:Nat} {F G:Nat->Int} (hp:2≤p) (hp2:p≤65521) (hn:n≤1024) (hm:m≤1024) (hF:∀ i,0≤F i/\F i<p) (hG:∀ i,0≤G i/\G i<p) (hG0:∀ j,m≤j->G j=0):FnOK Tryz.prog false 69 [.c (.int .i64 p),.c (il n F),.c (il m G)] (.c (il (tl (pr p F G n) (n+m-1)) (pr p F G n))):=by
 refine fn_ok (E:=E0) E0_ok Tryz.func69 rfl mixed (by kernel_rfl) (by kernel_rfl) ?_
 conv=>whnf
 refine bcase (fun(h1:gw false (decide ((n:Int)=0))=true)=>?_) fun(h1:gw false (decide ((n:Int)=0))=false)=>?_
 ·have h1:=of_decide_eq_false (gwf h1)
  conv=>whnf
  refine bcase (fun(h2:decide ((m:Int)=0)=true)=>?_) fun(h2:decide ((m:Int)=0)=false)=>?_
  ·have h2:=of_decide_eq_true h2
   conv=>whnf
   exact⟨rfl,subNil (tl_zero fun i _=>by unfold pr;rw[cv_zero fun j=>hG0 j (by omega)];rfl)⟩
  ·have h2:=of_decide_eq_false h2
   conv=>whnf
   refine⟨i64 (by omega) (by omega),?_⟩
   conv=>whnf
   refine⟨i64 (by omega) (by omega),?_⟩
   conv=>whnf
   refine⟨by omega,by omega,by omega,by show((8:Nat):Int)*((n:Int)+(m:Int)-1)≤_;omega,?_⟩
   conv=>whnf
   refine loop_ints (fun i:Nat=>ist [(0,.c (.int .i64 p)),(2,.c (il m G)),(7,.c (.gs 0 0)),(27,.c (il n F)),(28,.c (.int .i64 n)),(29,.c (.int .i64 i))] [(3,n+m-1,ps p F G i 0)]) (fun i=>n-i) (fun i=>i≤n) 0 rfl ?_ (Nat.zero_le _) fun i hi=>?_
   ·refine Weak.ints [some 0] rfl ⟨⟨_,rfl,rfl,rfl,?_,rfl,fun i hi=>?_⟩,trivial⟩ ⟨⟨_,rfl,rfl⟩,⟨_,_,rfl,rfl,fun _ _ _ _=>rfl⟩,⟨_,rfl,rfl,rfl⟩,⟨_,_,rfl,rfl,fun _ _ _ _=>rfl⟩,⟨_,rfl,rfl⟩,⟨_,rfl,rfl⟩,trivial⟩
    ·show((n:Int)+(m:Int)-1).toNat=n+m-1
     omega
    ·exact congrArg (Cell.int .i64) (show(0:Int)=ps p F G 0 0 i by rw[ps_zero];simp[cv])
   conv=>whnf
   refine bcase (fun(h:decide ((i:Int)<n)=true)=>?_) fun(h:decide ((i:Int)<n)=false)=>?_
   ·have h:=of_decide_eq_true h
    conv=>whnf
    refine⟨by omega,?_⟩
    conv=>whnf
    refine⟨by omega,?_⟩
    conv=>whnf
    refine loop_ints (fun j:Nat=>ist [(0,.c (.int .i64 p)),(2,.c (il m G)),(7,.c (.gs 0 0)),(27,.c (il n F)),(28,.c (.int .i64 n)),(29,.c (.int .i64 i)),(8,.c (.int .i64 i)),(9,.c (.int .i64 (F i))),(34,.c (il m G)),(35,.c (.int .i64 m)),(36,.c (.int .i64 j))] [(3,n+m-1,ps p F G i j)]) (fun j=>m-j) (fun j=>j≤m) 0 rfl ?_ (Nat.zero_le _) fun j hj=>?_
    ·exact Weak.ints [some 0] rfl ⟨⟨_,rfl,rfl,rfl,rfl,rfl,fun _ _=>rfl⟩,trivial⟩ ⟨⟨_,rfl,rfl⟩,⟨_,_,rfl,rfl,fun _ _ _ _=>rfl⟩,⟨_,rfl,rfl,rfl⟩,⟨_,_,rfl,rfl,fun _ _ _ _=>rfl⟩,⟨_,rfl,rfl⟩,⟨_,rfl,rfl⟩,⟨_,rfl,rfl⟩,⟨_,rfl,rfl⟩,⟨_,_,rfl,rfl,fun _ _ _ _=>rfl⟩,⟨_,rfl,rfl⟩,⟨_,rfl,rfl⟩,trivial⟩
    conv=>whnf
    refine bcase (fun(h':decide ((j:Int)<m)=true)=>?_) fun(h':decide ((j:Int)<m)=false)=>?_
    ·have h':=of_decide_eq_true h'
     have b1:=mul_bounds hp2 (hF i) (hG j)
     have b2:=ps_range (p:=p) (F:=F) (G:=G) (i:=i) (j:=j) (n:=i+j) (by omega)
     conv=>whnf
     refine⟨by omega,?_⟩
     conv=>whnf
     refine⟨by omega,?_⟩
     conv=>whnf
     refine⟨i64 (by omega) (by omega),?_⟩
     conv=>whnf
     refine⟨i64 (by omega) (by omega),?_⟩
     conv=>whnf
     refine⟨by omega,?_⟩
     conv=>whnf
     refine⟨by show(i:Int)+(j:Int)<((n+m-1:Nat):Int);omega,?_⟩
     conv=>whnf
     have eij:((i:Int)+(j:Int)).toNat=i+j:=by omega
     refine⟨by show inR .i64 (F i*G j);exact i64 (by omega) (by omega),?_⟩
     conv=>whnf
     refine⟨by show inR .i64 (ps p F G i j ((i:Int)+(j:Int)).toNat+F i*G j);rw[eij];exact i64 (by omega) (by omega),?_⟩
     conv=>whnf
     refine⟨by omega,?_⟩
     conv=>whnf
     refine⟨by omega,?_⟩
     conv=>whnf
     refine⟨by show(i:Int)+(j:Int)<((n+m-1:Nat):Int);omega,?_⟩
     conv=>whnf
     refine⟨i64 (by omega) (by omega),?_⟩
     conv=>whnf
     refine⟨j+1,by omega,?_,by omega⟩
     refine Weak.ints [some 0] rfl ⟨⟨_,rfl,rfl,rfl,rfl,rfl,fun k hk=>updI ?_⟩,trivial⟩ ⟨⟨_,rfl,rfl⟩,⟨_,_,rfl,rfl,fun _ _ _ _=>rfl⟩,⟨_,rfl,rfl,rfl⟩,⟨_,_,rfl,rfl,fun _ _ _ _=>rfl⟩,⟨_,rfl,rfl⟩,⟨_,rfl,rfl⟩,⟨_,rfl,rfl⟩,⟨_,rfl,rfl⟩,⟨_,_,rfl,rfl,fun _ _ _ _=>rfl⟩,⟨_,rfl,rfl⟩,⟨_,rfl,rfl⟩,trivial⟩
     show(if k=((i:Int)+(j:Int)).toNat then Int.tmod (ps p F G i j ((i:Int)+(j:Int)).toNat+F i*G j) p else ps p F G i j k)=ps p F G i (j+1) k
     rw[eij,rem_eq (by omega),← ps_step]
     by_cases e:k=i+j
     ·subst e;rfl
     ·rw[if_neg e,if_neg e]
    ·have h':=of_decide_eq_false h'
     obtain rfl:j=m:=by omega
     conv=>whnf
     refine⟨i64 (by omega) (by omega),?_⟩
     conv=>whnf
     refine⟨i+1,by omega,?_,by omega⟩
     exact Weak.ints [some 0] rfl ⟨⟨_,rfl,rfl,rfl,rfl,rfl,fun k hk=>congrArg (Cell.int .i64) (ps_full hG0)⟩,trivial⟩ ⟨⟨_,rfl,rfl⟩,⟨_,_,rfl,rfl,fun _ _ _ _=>rfl⟩,⟨_,rfl,rfl,rfl⟩,⟨_,_,rfl,rfl,fun _ _ _ _=>rfl⟩,⟨_,rfl,rfl⟩,⟨_,rfl,rfl⟩,trivial⟩
   ·have h:=of_decide_eq_false h
    obtain rfl:i=n:=by omega
    conv=>whnf
    refine⟨fun _ _ _ _=>rfl,?_⟩
    conv=>whnf
    refine⟨_,trimmed_ok (n:=i+m-1) (a:=ps p F G i 0) (by omega),?_⟩
    conv=>whnf
    exact⟨rfl,subRow (tl_congr fun k _=>ps_zero) fun k _=>ps_zero⟩
 ·have h1:=of_decide_eq_true (gwf' h1)
  conv=>whnf
  exact⟨rfl,subNil (tl_zero fun i _=>by rw[show n=0 by omega];exact Int.zero_emod p)⟩
end Fp
end Go.Proofs.YtibaocbpeaejkaaGreat
/- Quotients and remainders of lists modulo a prime. -/
namespace Go.Proofs.YtibaocbpeaejkaaGreat
open Go.RowKit
namespace Fp
set_option maxHeartbeats 4000000 in
theorem clone_m {n:Nat} {a:Nat->Int} (h0:0<n) (hn:n≤1048576):FnM Tryz.prog false 129 phB [.c (il n a)] (.c (.gs 1 0)) phB [ib (3,n,a)]:=by
  refine fnm_ok (E:=E0m) E0m_ok Tryz.func129 rfl mixed (by kernel_rfl) (by kernel_rfl) rfl ?_
  conv=>whnf
  refine⟨h0,?_⟩
  conv=>whnf
  refine⟨by show 0+n≤16777216;omega,fun x y hx hy=>?_,?_⟩
  · obtain rfl : y = 0 := by have h : y < 1 := hy
                             omega
    exact⟨rfl,fun h=>by cases h⟩
  conv=>whnf
  refine(Weak.reset 1 rfl (Nat.zero_le _) rfl).trans ?_
  refine(Weak.cut (tl:=[(0,.c (.gs 1 0))]) (bl':=[phB,⟨3,1,0+n,0,0,fun i j=>resetC 1 1 (appF 0 (rowF 1 []) (fun i _ => .int .i64 (a i)) i j)⟩]) rfl ⟨rfl,trivial⟩ rfl ⟨fun h=>absurd h (by decide),fun _ i j _ hj=>?_,trivial⟩ rfl).trans ?_
  · show(resetC 1 1 (appF 0 (rowF 1 []) (fun i _ => .int .i64 (a i)) i j)).lt 2=true
    rw[appF_zero];rfl
  · simp only[Nat.zero_add]
    exact Weak.alike ⟨Blk.alike.refl _,⟨rfl,fun i j _ _=>by show resetC 1 1 (appF 0 (rowF 1 []) (fun i _ => .int .i64 (a i)) i j)=_;rw[appF_zero];rfl⟩,trivial⟩
def dpart (p c:Int) (G r:Nat->Int) (i j n:Nat):Int:=if i≤n/\n<i+j then(r n-c*G (n-i))%p else r n
theorem dpart_zero {p c:Int} {G r:Nat->Int} {i n:Nat}:dpart p c G r i 0 n=r n:=by
  unfold dpart;rw[if_neg (by omega)]
theorem dpart_step {p c:Int} {G r:Nat->Int} {i j n:Nat}:(if n=i+j then(r (i+j)+(p-c)*G j)%p else dpart p c G r i j n)=dpart p c G r i (j+1) n:=by
  unfold dpart
  by_cases e:n=i+j
  · subst e
    rw[if_pos rfl,if_pos (by omega),Nat.add_sub_cancel_left]
    have:r (i+j)+(p-c)*G j=(r (i+j)-c*G j)+p*G j:=by grind
    rw[this,Int.add_mul_emod_self_left]
  · rw[if_neg e]
    by_cases h:i≤n/\n<i+j
    · rw[if_pos h,if_pos (by omega)]
    · rw[if_neg h,if_neg (by omega)]
def dn (p b : Int) (m N : Nat) (F G : Nat → Int) : Nat → Nat → Int
  | 0=>F
  | t+1=>dpart p ((dn p b m N F G t (N-1-t+m-1)*b)%p) G (dn p b m N F G t) (N-1-t) m
def dq (p b:Int) (m N:Nat) (F G:Nat->Int) (i:Nat):Int:=(dn p b m N F G (N-(i+1)) (i+m-1)*b)%p
theorem dn_step {p b:Int} {m N:Nat} {F G:Nat->Int} {i:Nat} (hi:i<N):dn p b m N F G (N-i)=dpart p (dq p b m N F G i) G (dn p b m N F G (N-(i+1))) i m:=by
  have e:N-i=(N-(i+1))+1:=by omega
  rw[e]
  show dpart p _ G _ (N-1-(N-(i+1))) m=_
  rw[show N-1-(N-(i+1))=i by omega]
  rfl
theorem dn_range {p b : Int} {m N : Nat} {F G : Nat → Int} (hp : 0 < p) (hF : ∀ i, 0 ≤ F i ∧ F i < p) : ∀ t n, 0 ≤ dn p b m N F G t n ∧ dn p b m N F G t n < p
  | 0,n=>hF n
  | t+1,n=>by
    show 0≤dpart _ _ _ _ _ _ _/\dpart _ _ _ _ _ _ _<p
    unfold dpart
    split
    · exact⟨Int.emod_nonneg _ (by omega),Int.emod_lt_of_pos _ hp⟩
    · exact dn_range hp hF t n
theorem dq_range {p b:Int} {m N:Nat} {F G:Nat->Int} (hp:0<p) (i:Nat):0≤dq p b m N F G i/\dq p b m N F G i<p:=⟨Int.emod_nonneg _ (by omega),Int.emod_lt_of_pos _ hp⟩
set_option maxHeartbeats 4000000 in
theorem divide_ok {p:Int} {n m:Nat} {F G:Nat->Int} (hp:md p) (hn:n≤4096) (h0:0<m) (hnm:m≤n) (hF:∀ i,0≤F i/\F i<p) (hG:∀ i,0≤G i/\G i<p) (hl:G (m-1)≠0):FnOK Tryz.prog false 104 [.c (.int .i64 p),.c (il n F),.c (il m G)] (.t2 (.c (il (n+1-m) (dq p (inv (G (m-1)) p) m (n+1-m) F G))) (.c (il (tl (dn p (inv (G (m-1)) p) m (n+1-m) F G (n+1-m)) n) (dn p (inv (G (m-1)) p) m (n+1-m) F G (n+1-m))))):=by
  obtain⟨hp1,hp2,hP⟩:=hp
  have hi:=inv_range (c:=G (m-1)) (p:=p) (by omega)
  have hg:0<G (m-1)%p:=by
    rw[Int.emod_eq_of_lt (hG _).1 (hG _).2]
    have:=(hG (m-1)).1
    omega
  have hdr:=fun t k=>dn_range (b:=inv (G (m-1)) p) (m:=m) (N:=n+1-m) (F:=F) (G:=G) (by omega) hF t k
  have hqr:=fun i=>dq_range (p:=p) (b:=inv (G (m-1)) p) (m:=m) (N:=n+1-m) (F:=F) (G:=G) (by omega) i
  have hN:m+(n+1-m)=n+1:=by omega
  have hinv:=inverse_ok (c:=G (m-1)) ⟨hp1,hp2,hP⟩ hg
  generalize inv (G (m-1)) p=b at *
  generalize n+1-m=N at *
  refine fn_ok (E:=E0) E0_ok Tryz.func104 rfl mixed (by kernel_rfl) (by kernel_rfl) ?_
  conv=>whnf
  refine .inl ⟨[],true,?_⟩
  conv=>whnf
  refine⟨0,phB,[.c (il n F)],_,_,_,clone_m (by omega) (by omega),rfl,.inr (Nat.le_refl 2),fun h=>absurd h (by decide),fun h=>absurd h (by decide),fun F' hF'=>?_,rfl,rfl,?_⟩
  · simp at hF';subst hF';exact fun _ _ _ _ _=>rfl
  conv=>whnf
  refine bneg (show decide ((n:Int)<m)=false by simp;omega) ?_
  conv=>whnf
  have em:((m:Int)-1).toNat=m-1:=by omega
  refine⟨i64 (by omega) (by omega),?_⟩
  conv=>whnf
  refine⟨by omega,?_⟩
  conv=>whnf
  refine⟨by omega,?_⟩
  conv=>whnf
  refine⟨_,(show FnOK Tryz.prog false 108 [.c (.int .i64 (G ((m:Int)-1).toNat)),.c (.int .i64 p)] (.c (.int .i64 b))by rw[em];exact hinv),?_⟩
  conv=>whnf
  refine⟨i64 (by omega) (by omega),?_⟩
  conv=>whnf
  refine⟨i64 (by omega) (by omega),?_⟩
  conv=>whnf
  refine⟨by omega,by omega,by omega,by show((8:Nat):Int)*((n:Int)-(m:Int)+1)≤_;omega,?_⟩
  conv=>whnf
  have en:((n:Int)-(m:Int)+1).toNat=N:=by omega
  refine⟨by show inR .i64 (((((n:Int)-(m:Int)+1).toNat:Nat):Int)-1);rw[en];exact i64 (by omega) (by omega),?_⟩
  conv=>whnf
  refine loop_ints (fun k:Nat=>ist [(0,.c (.int .i64 p)),(2,.c (il m G)),(6,.c (.gs 1 0)),(7,.c (.gs 0 0)),(8,.c (.int .i64 b)),(9,.c (.int .i64 ((k:Int)-1)))] [(3,n,dn p b m N F G (N-k)),(3,N,fun i=>if k≤i then dq p b m N F G i else 0)]) (fun k=>k) (fun k=>k≤N) N rfl ?_ (Nat.le_refl _) fun k hk=>?_
  · refine Weak.ints [some 1,some 2] rfl ⟨⟨_,rfl,rfl,rfl,rfl,rfl,fun i hi=>?_⟩,⟨_,rfl,rfl,rfl,en,rfl,fun i hi=>?_⟩,trivial⟩ ⟨⟨_,rfl,rfl⟩,⟨_,_,rfl,rfl,fun _ _ _ _=>rfl⟩,⟨_,rfl,rfl,rfl⟩,⟨_,rfl,rfl,rfl⟩,⟨_,rfl,rfl⟩,⟨_,rfl,?_⟩,trivial⟩
    · exact congrArg (Cell.int .i64) (show F i=dn p b m N F G (N-N) i by rw[Nat.sub_self];rfl)
    · have hi:i<N:=hi
      exact congrArg (Cell.int .i64) (show(0:Int)=if N≤i then dq p b m N F G i else 0 by rw[if_neg (by omega)])
    · show((((n:Int)-(m:Int)+1).toNat:Nat):Int)-1=(N:Int)-1
      rw[en]
  conv=>whnf
  refine bcase (fun(h:decide ((0:Int)≤(k:Int)-1)=true)=>?_) fun(h:decide ((0:Int)≤(k:Int)-1)=false)=>?_
  · have h:=of_decide_eq_true h
    obtain⟨i,rfl⟩:∃ i,k=i+1:=⟨k-1,by omega⟩
    have ei:(((i+1:Nat):Int)-1).toNat=i:=by omega
    have ei2:((((i+1:Nat):Int)-1)+(m:Int)-1).toNat=i+m-1:=by omega
    have r1:=hdr (N-(i+1)) (i+m-1)
    have b1:=mul_bounds hp2 r1 hi
    have hc:Int.tmod (dn p b m N F G (N-(i+1)) ((((i+1:Nat):Int)-1)+(m:Int)-1).toNat*b) p=dq p b m N F G i:=by
      rw[ei2,rem_eq b1.1];rfl
    conv=>whnf
    refine⟨i64 (by omega) (by omega),?_⟩
    conv=>whnf
    refine⟨i64 (by omega) (by omega),?_⟩
    conv=>whnf
    refine⟨by omega,?_⟩
    conv=>whnf
    refine⟨by show((i+1:Nat):Int)-1+(m:Int)-1<(n:Int);omega,?_⟩
    conv=>whnf
    refine⟨by show inR .i64 (dn p b m N F G (N-(i+1)) ((((i+1:Nat):Int)-1)+(m:Int)-1).toNat*b);rw[ei2];exact i64 (by omega) (by omega),?_⟩
    conv=>whnf
    refine⟨by omega,?_⟩
    conv=>whnf
    refine⟨by omega,?_⟩
    conv=>whnf
    refine⟨by show((i+1:Nat):Int)-1<(N:Int);omega,?_⟩
    conv=>whnf
    refine loop_ints (fun j:Nat=>ist [(0,.c (.int .i64 p)),(2,.c (il m G)),(6,.c (.gs 1 0)),(7,.c (.gs 0 0)),(8,.c (.int .i64 b)),(9,.c (.int .i64 (((i+1:Nat):Int)-1))),(10,.c (.int .i64 (dq p b m N F G i))),(59,.c (il m G)),(60,.c (.int .i64 m)),(61,.c (.int .i64 j))] [(3,n,dpart p (dq p b m N F G i) G (dn p b m N F G (N-(i+1))) i j),(3,N,fun x=>if i≤x then dq p b m N F G x else 0)]) (fun j=>m-j) (fun j=>j≤m) 0 rfl ?_ (Nat.zero_le _) fun j hj=>?_
    · refine Weak.ints [some 0,some 1] rfl ⟨⟨_,rfl,rfl,rfl,rfl,rfl,fun x hx=>congrArg (Cell.int .i64) dpart_zero.symm⟩,⟨_,rfl,rfl,rfl,rfl,rfl,fun x hx=>updI ?_⟩,trivial⟩ ⟨⟨_,rfl,rfl⟩,⟨_,_,rfl,rfl,fun _ _ _ _=>rfl⟩,⟨_,rfl,rfl,rfl⟩,⟨_,rfl,rfl,rfl⟩,⟨_,rfl,rfl⟩,⟨_,rfl,rfl⟩,⟨_,rfl,hc⟩,⟨_,_,rfl,rfl,fun _ _ _ _=>rfl⟩,⟨_,rfl,rfl⟩,⟨_,rfl,rfl⟩,trivial⟩
      show(if x=(((i+1:Nat):Int)-1).toNat then Int.tmod (dn p b m N F G (N-(i+1)) ((((i+1:Nat):Int)-1)+(m:Int)-1).toNat*b) p else if i+1≤x then dq p b m N F G x else 0)=if i≤x then dq p b m N F G x else 0
      rw[ei,hc]
      by_cases e:x=i
      · subst e;rw[if_pos rfl,if_pos (Nat.le_refl _)]
      · rw[if_neg e]
        by_cases e2:i+1≤x
        · rw[if_pos e2,if_pos (by omega)]
        · rw[if_neg e2,if_neg (by omega)]
    conv=>whnf
    refine bcase (fun(h':decide ((j:Int)<m)=true)=>?_) fun(h':decide ((j:Int)<m)=false)=>?_
    · have h':=of_decide_eq_true h'
      have eij:((((i+1:Nat):Int)-1)+(j:Int)).toNat=i+j:=by omega
      have c1:=hqr i
      have g1:=hG j
      have b2:0≤(p-dq p b m N F G i)*G j/\(p-dq p b m N F G i)*G j≤65521*65521:=⟨Int.mul_nonneg (by omega) g1.1,Int.mul_le_mul (by omega) (by omega) g1.1 (by omega)⟩
      have r2:=hdr (N-(i+1)) (i+j)
      have ed:dpart p (dq p b m N F G i) G (dn p b m N F G (N-(i+1))) i j (i+j)=dn p b m N F G (N-(i+1)) (i+j):=by
        unfold dpart;rw[if_neg (by omega)]
      conv=>whnf
      refine⟨by omega,?_⟩
      conv=>whnf
      refine⟨by omega,?_⟩
      conv=>whnf
      refine⟨i64 (by omega) (by omega),?_⟩
      conv=>whnf
      refine⟨i64 (by omega) (by omega),?_⟩
      conv=>whnf
      refine⟨by omega,?_⟩
      conv=>whnf
      refine⟨by show((i+1:Nat):Int)-1+(j:Int)<(n:Int);omega,?_⟩
      conv=>whnf
      refine⟨i64 (by omega) (by omega),?_⟩
      conv=>whnf
      refine⟨by show inR .i64 ((p-dq p b m N F G i)*G j);exact i64 (by omega) (by omega),?_⟩
      conv=>whnf
      refine⟨by show inR .i64 (dpart p (dq p b m N F G i) G (dn p b m N F G (N-(i+1))) i j ((((i+1:Nat):Int)-1)+(j:Int)).toNat+(p-dq p b m N F G i)*G j);rw[eij,ed];exact i64 (by omega) (by omega),?_⟩
      conv=>whnf
      refine⟨by omega,?_⟩
      conv=>whnf
      refine⟨by omega,?_⟩
      conv=>whnf
      refine⟨by show((i+1:Nat):Int)-1+(j:Int)<(n:Int);omega,?_⟩
      conv=>whnf
      refine⟨i64 (by omega) (by omega),?_⟩
      conv=>whnf
      refine⟨j+1,by omega,?_,by omega⟩
      refine Weak.ints [some 0,some 1] rfl ⟨⟨_,rfl,rfl,rfl,rfl,rfl,fun x hx=>updI ?_⟩,⟨_,rfl,rfl,rfl,rfl,rfl,fun _ _=>rfl⟩,trivial⟩ ⟨⟨_,rfl,rfl⟩,⟨_,_,rfl,rfl,fun _ _ _ _=>rfl⟩,⟨_,rfl,rfl,rfl⟩,⟨_,rfl,rfl,rfl⟩,⟨_,rfl,rfl⟩,⟨_,rfl,rfl⟩,⟨_,rfl,rfl⟩,⟨_,_,rfl,rfl,fun _ _ _ _=>rfl⟩,⟨_,rfl,rfl⟩,⟨_,rfl,rfl⟩,trivial⟩
      show(if x=((((i+1:Nat):Int)-1)+(j:Int)).toNat then Int.tmod (dpart p (dq p b m N F G i) G (dn p b m N F G (N-(i+1))) i j ((((i+1:Nat):Int)-1)+(j:Int)).toNat+(p-dq p b m N F G i)*G j) p else dpart p (dq p b m N F G i) G (dn p b m N F G (N-(i+1))) i j x)=dpart p (dq p b m N F G i) G (dn p b m N F G (N-(i+1))) i (j+1) x
      rw[eij,ed,rem_eq (by omega)]
      exact dpart_step
    · have h':=of_decide_eq_false h'
      obtain rfl:j=m:=by omega
      conv=>whnf
      refine⟨i64 (by omega) (by omega),?_⟩
      conv=>whnf
      refine⟨i,by omega,?_,by omega⟩
      exact Weak.ints [some 0,some 1] rfl ⟨⟨_,rfl,rfl,rfl,rfl,rfl,fun x hx=>congrArg (Cell.int .i64) (congrFun (dn_step (by omega)).symm x)⟩,⟨_,rfl,rfl,rfl,rfl,rfl,fun _ _=>rfl⟩,trivial⟩ ⟨⟨_,rfl,rfl⟩,⟨_,_,rfl,rfl,fun _ _ _ _=>rfl⟩,⟨_,rfl,rfl,rfl⟩,⟨_,rfl,rfl,rfl⟩,⟨_,rfl,rfl⟩,⟨_,rfl,by omega⟩,trivial⟩
  · have h:=of_decide_eq_false h
    obtain rfl:k=0:=by omega
    conv=>whnf
    refine⟨fun _ _ _ _=>rfl,?_⟩
    conv=>whnf
    refine⟨_,trimmed_ok (n:=n) (a:=dn p b m N F G (N-0)) (by omega),?_⟩
    conv=>whnf
    refine⟨fun _ _ _ _=>rfl,?_⟩
    conv=>whnf
    exact⟨rfl,subT2 (subRow (a:=fun x=>if 0≤x then dq p b m N F G x else 0) (b:=dq p b m N F G) rfl fun x _=>if_pos (Nat.zero_le x)) (Sub.refl _)⟩
theorem divide_short {p:Int} {n m:Nat} {F G:Nat->Int} (hn:n≤4096) (hnm:n<m):FnOK Tryz.prog false 104 [.c (.int .i64 p),.c (il n F),.c (il m G)] (.t2 (.c .nil) (.c (il n F))):=by
  refine fn_ok (E:=E0) E0_ok Tryz.func104 rfl mixed (by kernel_rfl) (by kernel_rfl) ?_
  conv=>whnf
  refine .inr ?_
  conv=>whnf
  refine⟨_,clone_ok (by omega),?_⟩
  conv=>whnf
  refine bpos (show decide ((n:Int)<m)=true by simp;omega) ?_
  conv=>whnf
  exact⟨rfl,Sub.refl _⟩
end Fp
end Go.Proofs.YtibaocbpeaejkaaGreat
/- The reference's quotients and remainders. -/
namespace Go.Proofs.YtibaocbpeaejkaaGreat
open Go.RowKit
namespace Fp
theorem dpart_ref {p c:Int} {G r:Nat->Int} {i j n:Nat}:(if n=i+j then(r (i+j)-c*G j)%p else dpart p c G r i j n)=dpart p c G r i (j+1) n:=by
  unfold dpart
  by_cases e:n=i+j
  · subst e
    rw[if_pos rfl,if_pos (by omega),Nat.add_sub_cancel_left]
  · rw[if_neg e]
    by_cases h:i≤n/\n<i+j
    · rw[if_pos h,if_pos (by omega)]
    · rw[if_neg h,if_neg (by omega)]
set_option maxHeartbeats 4000000 in
theorem refNormal_m {p:Int} {n:Nat} {a:Nat->Int} (hp:0<p) (hp2:p≤65521) (hn:n≤1048576):FnM Tryz.prog false 67 phB [.c (.int .i64 p),.c (il n a)] (.c (.sl 1 0 1 0 (tl (nf p n a) n))) phB [ib (3,n,nf p n a)]:=by
  refine fnm_ok (E:=E0m) E0m_ok Tryz.func67 rfl mixed (by kernel_rfl) (by kernel_rfl) rfl ?_
  conv=>whnf
  refine loop_ints1 (fun i:Nat=>ist1 [(0,.c (.int .i64 p)),(1,.c (il n a)),(5,.c (.gs 1 0)),(6,.c (.int .i64 i))] [(3,i,nf p i a)]) (fun i=>n-i) (fun i=>i≤n) 0 rfl (Weak.ints1 [none] rfl rfl ⟨rfl,trivial⟩ ⟨⟨_,rfl,rfl⟩,⟨_,_,rfl,rfl,fun _ _ _ _=>rfl⟩,rfl,⟨_,rfl,rfl⟩,trivial⟩) (Nat.zero_le _) fun i hi=>?_
  conv=>whnf
  refine bcase (fun(h:decide ((i:Int)<n)=true)=>?_) fun(h:decide ((i:Int)<n)=false)=>?_
  · have h:=of_decide_eq_true h
    conv=>whnf
    refine⟨by omega,?_⟩
    conv=>whnf
    refine⟨by omega,?_⟩
    conv=>whnf
    refine⟨_,refMod_ok (a:=a i) hp hp2,?_⟩
    conv=>whnf
    refine⟨by show i+1≤16777216;omega,fun x y hx hy=>?_,?_⟩
    · obtain rfl : x = 0 := by have h : x < 1 := hx
                               omega
      obtain rfl : y = 0 := by have h : y < 1 := hy
                               omega
      exact⟨rfl,fun h=>by cases h⟩
    conv=>whnf
    refine⟨i64 (by omega) (by omega),?_⟩
    conv=>whnf
    refine⟨i+1,by omega,Weak.ints1 [some 1] rfl rfl ⟨⟨_,rfl,rfl,rfl,rfl,rfl,fun j hj=>?_⟩,trivial⟩ ⟨⟨_,rfl,rfl⟩,⟨_,_,rfl,rfl,fun _ _ _ _=>rfl⟩,⟨_,rfl,rfl,rfl⟩,⟨_,rfl,rfl⟩,trivial⟩,by omega⟩
    refine appI ?_ (show i+1≤i+1 from Nat.le_refl _) hj
    exact nf_succ p i a j
  · have h:=of_decide_eq_false h
    obtain rfl:i=n:=by omega
    conv=>whnf
    refine loop_ints1 (fun m:Nat=>ist1 [(5,.c (.gs 1 0)),(7,.c (.int .i64 m))] [(3,i,nf p i a)]) (fun m=>m) (fun m=>m≤i/\tl (nf p i a) m=tl (nf p i a) i) i rfl (Weak.ints1 [some 1] rfl rfl ⟨⟨_,rfl,rfl,rfl,rfl,rfl,fun _ _=>rfl⟩,trivial⟩ ⟨⟨_,rfl,rfl,rfl⟩,⟨_,rfl,rfl⟩,trivial⟩) ⟨Nat.le_refl _,rfl⟩ fun m ⟨hm,ht⟩=>?_
    conv=>whnf
    refine bcase (fun(h:gw true (decide ((0:Int)<m))=true)=>?_) fun(h:gw true (decide ((0:Int)<m))=false)=>?_
    · have h:=of_decide_eq_true (gw_true.1 h)
      obtain⟨k,rfl⟩:∃ k,m=k+1:=⟨m-1,by omega⟩
      have ek:(((k+1:Nat):Int)-1).toNat=k:=by omega
      conv=>whnf
      refine⟨i64 (by omega) (by omega),?_⟩
      conv=>whnf
      refine⟨by omega,?_⟩
      conv=>whnf
      refine⟨by show(((k+1:Nat):Int)-1)<(i:Int);omega,?_⟩
      conv=>whnf
      refine bcase (fun(h1:decide (nf p i a (((k+1:Nat):Int)-1).toNat=0)=true)=>?_) fun(h1:decide (nf p i a (((k+1:Nat):Int)-1).toNat=0)=false)=>?_
      · have h1:=of_decide_eq_true h1
        rw[ek]at h1
        conv=>whnf
        refine⟨i64 (by omega) (by omega),?_⟩
        conv=>whnf
        exact⟨k,by omega,Weak.ints1 [some 1] rfl rfl ⟨⟨_,rfl,rfl,rfl,rfl,rfl,fun _ _=>rfl⟩,trivial⟩ ⟨⟨_,rfl,rfl,rfl⟩,⟨_,rfl,by omega⟩,trivial⟩,by omega,by rw[← ht];simp[tl,h1]⟩
      · have h1:=of_decide_eq_false h1
        rw[ek]at h1
        conv=>whnf
        refine⟨by omega,by omega,?_⟩
        conv=>whnf
        refine⟨by show((k+1:Nat):Int)≤(i:Int);omega,?_⟩
        conv=>whnf
        refine Weak.ints1 (tl:=[(0,.c (.sl 1 0 1 0 (tl (nf p i a) i)))]) (xs:=[(3,i,nf p i a)]) [some 1] rfl rfl ?_ ?_
        · exact⟨⟨_,rfl,rfl,rfl,rfl,rfl,fun _ _=>rfl⟩,trivial⟩
        · exact⟨⟨_,_,rfl,rfl,rfl,by rw[← ht];simp[tl,h1]⟩,trivial⟩
    · have h:¬(0:Int)<m:=of_decide_eq_false (gw_false.1 h)
      obtain rfl:m=0:=by omega
      conv=>whnf
      refine⟨by omega,by omega,?_⟩
      conv=>whnf
      refine⟨by show((0:Nat):Int)≤(i:Int);omega,?_⟩
      conv=>whnf
      refine Weak.ints1 (tl:=[(0,.c (.sl 1 0 1 0 (tl (nf p i a) i)))]) (xs:=[(3,i,nf p i a)]) [some 1] rfl rfl ?_ ?_
      · exact⟨⟨_,rfl,rfl,rfl,rfl,rfl,fun _ _=>rfl⟩,trivial⟩
      · exact⟨⟨_,_,rfl,rfl,rfl,by rw[← ht];rfl⟩,trivial⟩
set_option maxHeartbeats 4000000 in
theorem refDivide_ok {p:Int} {n0 m0 n m:Nat} {a c:Nat->Int} {F G:Nat->Int} (hp:md p) (hn0:n0≤4096) (hm0:m0≤4096) (eF:nf p n0 a=F) (eG:nf p m0 c=G) (en0:tl F n0=n) (em0:tl G m0=m) (h0:0<m) (hnm:m≤n) (hF:∀ i,0≤F i/\F i<p) (hG:∀ i,0≤G i/\G i<p) (hl:G (m-1)≠0):FnOK Tryz.prog false 86 [.c (.int .i64 p),.c (il n0 a),.c (il m0 c)] (.t2 (.c (il (tl (nf p (n+1-m) (dq p (inv (G (m-1)) p) m (n+1-m) F G)) (n+1-m)) (nf p (n+1-m) (dq p (inv (G (m-1)) p) m (n+1-m) F G)))) (.c (il (tl (nf p n (dn p (inv (G (m-1)) p) m (n+1-m) F G (n+1-m))) n) (nf p n (dn p (inv (G (m-1)) p) m (n+1-m) F G (n+1-m)))))):=by
  obtain⟨hp1,hp2,hP⟩:=hp
  have hnn:n≤n0:=by rw[← en0];exact tl_le _ _
  have hn:n≤4096:=by omega
  have hi:=inv_range (c:=G (m-1)) (p:=p) (by omega)
  have hg:0<G (m-1)%p:=by
    rw[Int.emod_eq_of_lt (hG _).1 (hG _).2]
    have:=(hG (m-1)).1
    omega
  have hdr:=fun t k=>dn_range (b:=inv (G (m-1)) p) (m:=m) (N:=n+1-m) (F:=F) (G:=G) (by omega) hF t k
  have hqr:=fun i=>dq_range (p:=p) (b:=inv (G (m-1)) p) (m:=m) (N:=n+1-m) (F:=F) (G:=G) (by omega) i
  have hN:m+(n+1-m)=n+1:=by omega
  have hinv:=refInverse_ok (c:=G (m-1)) ⟨hp1,hp2,hP⟩ hg
  have hNf:=refNormal_m (p:=p) (n:=n0) (a:=a) (by omega) hp2 (by omega)
  have hNg:=refNormal_ok (p:=p) (n:=m0) (a:=c) (by omega) hp2 (by omega)
  rw[eF,en0]at hNf
  rw[eG,em0]at hNg
  generalize inv (G (m-1)) p=b at *
  generalize n+1-m=N at *
  refine fn_ok (E:=E0) E0_ok Tryz.func86 rfl mixed (by kernel_rfl) (by kernel_rfl) ?_
  conv=>whnf
  refine .inl ⟨[],true,?_⟩
  conv=>whnf
  refine⟨0,phB,[.c (.int .i64 p),.c (il n0 a)],_,_,_,hNf,rfl,.inr (Nat.le_refl 2),fun h=>absurd h (by decide),fun h=>absurd h (by decide),fun F' hF'=>?_,rfl,rfl,?_⟩
  · simp at hF';subst hF';exact fun _ _ _ _ _=>rfl
  conv=>whnf
  refine .inr ?_
  conv=>whnf
  refine⟨_,hNg,?_⟩
  conv=>whnf
  refine bneg (show decide ((n:Int)<m)=false by simp;omega) ?_
  conv=>whnf
  have em:((m:Int)-1).toNat=m-1:=by omega
  refine⟨i64 (by omega) (by omega),?_⟩
  conv=>whnf
  refine⟨by omega,?_⟩
  conv=>whnf
  refine⟨by omega,?_⟩
  conv=>whnf
  refine⟨_,(show FnOK Tryz.prog false 57 [.c (.int .i64 (G ((m:Int)-1).toNat)),.c (.int .i64 p)] (.t2 (.c (.int .i64 b)) (.c (.int .i64 0)))by rw[em];exact hinv),?_⟩
  conv=>whnf
  refine⟨i64 (by omega) (by omega),?_⟩
  conv=>whnf
  refine⟨i64 (by omega) (by omega),?_⟩
  conv=>whnf
  refine⟨by omega,by omega,by omega,by show((8:Nat):Int)*((n:Int)-(m:Int)+1)≤_;omega,?_⟩
  conv=>whnf
  have en:((n:Int)-(m:Int)+1).toNat=N:=by omega
  refine⟨i64 (by omega) (by omega),?_⟩
  conv=>whnf
  refine loop_ints (fun k:Nat=>ist [(0,.c (.int .i64 p)),(9,.c (il m G)),(12,.c (.gs 1 0)),(8,.c (.sl 0 0 1 0 n)),(10,.c (.int .i64 b)),(13,.c (.int .i64 ((k:Int)-1)))] [(3,n0,dn p b m N F G (N-k)),(3,N,fun i=>if k≤i then dq p b m N F G i else 0)]) (fun k=>k) (fun k=>k≤N) N rfl ?_ (Nat.le_refl _) fun k hk=>?_
  · refine Weak.ints [some 1,some 2] rfl ⟨⟨_,rfl,rfl,rfl,rfl,rfl,fun i hi=>?_⟩,⟨_,rfl,rfl,rfl,en,rfl,fun i hi=>?_⟩,trivial⟩ ⟨⟨_,rfl,rfl⟩,⟨_,_,rfl,rfl,fun _ _ _ _=>rfl⟩,⟨_,rfl,rfl,rfl⟩,⟨_,_,rfl,rfl,rfl,rfl⟩,⟨_,rfl,rfl⟩,⟨_,rfl,?_⟩,trivial⟩
    · exact congrArg (Cell.int .i64) (show F i=dn p b m N F G (N-N) i by rw[Nat.sub_self];rfl)
    · have hi:i<N:=hi
      exact congrArg (Cell.int .i64) (show(0:Int)=if N≤i then dq p b m N F G i else 0 by rw[if_neg (by omega)])
    · show(n:Int)-(m:Int)=(N:Int)-1
      omega
  conv=>whnf
  refine bcase (fun(h:decide ((0:Int)≤(k:Int)-1)=true)=>?_) fun(h:decide ((0:Int)≤(k:Int)-1)=false)=>?_
  · have h:=of_decide_eq_true h
    obtain⟨i,rfl⟩:∃ i,k=i+1:=⟨k-1,by omega⟩
    have ei:(((i+1:Nat):Int)-1).toNat=i:=by omega
    have ei2:0+((((i+1:Nat):Int)-1)+(m:Int)-1).toNat=i+m-1:=by omega
    have r1:=hdr (N-(i+1)) (i+m-1)
    have b1:=mul_bounds hp2 r1 hi
    have hc:Int.tmod (dn p b m N F G (N-(i+1)) (0+((((i+1:Nat):Int)-1)+(m:Int)-1).toNat)*b) p=dq p b m N F G i:=by
      rw[ei2,rem_eq b1.1];rfl
    conv=>whnf
    refine⟨i64 (by omega) (by omega),?_⟩
    conv=>whnf
    refine⟨i64 (by omega) (by omega),?_⟩
    conv=>whnf
    refine⟨by omega,?_⟩
    conv=>whnf
    refine⟨by show((i+1:Nat):Int)-1+(m:Int)-1<(n:Int);omega,?_⟩
    conv=>whnf
    refine⟨by show inR .i64 (dn p b m N F G (N-(i+1)) (0+((((i+1:Nat):Int)-1)+(m:Int)-1).toNat)*b);rw[ei2];exact i64 (by omega) (by omega),?_⟩
    conv=>whnf
    refine⟨by omega,?_⟩
    conv=>whnf
    refine⟨by omega,?_⟩
    conv=>whnf
    refine⟨by show((i+1:Nat):Int)-1<(N:Int);omega,?_⟩
    conv=>whnf
    refine loop_ints (fun j:Nat=>ist [(0,.c (.int .i64 p)),(9,.c (il m G)),(12,.c (.gs 1 0)),(8,.c (.sl 0 0 1 0 n)),(10,.c (.int .i64 b)),(13,.c (.int .i64 (((i+1:Nat):Int)-1))),(14,.c (.int .i64 (dq p b m N F G i))),(15,.c (.int .i64 j))] [(3,n0,dpart p (dq p b m N F G i) G (dn p b m N F G (N-(i+1))) i j),(3,N,fun x=>if i≤x then dq p b m N F G x else 0)]) (fun j=>m-j) (fun j=>j≤m) 0 rfl ?_ (Nat.zero_le _) fun j hj=>?_
    · refine Weak.ints [some 0,some 1] rfl ⟨⟨_,rfl,rfl,rfl,rfl,rfl,fun x hx=>congrArg (Cell.int .i64) dpart_zero.symm⟩,⟨_,rfl,rfl,rfl,rfl,rfl,fun x hx=>updI ?_⟩,trivial⟩ ⟨⟨_,rfl,rfl⟩,⟨_,_,rfl,rfl,fun _ _ _ _=>rfl⟩,⟨_,rfl,rfl,rfl⟩,⟨_,_,rfl,rfl,rfl,rfl⟩,⟨_,rfl,rfl⟩,⟨_,rfl,rfl⟩,⟨_,rfl,hc⟩,⟨_,rfl,rfl⟩,trivial⟩
      show(if x=(((i+1:Nat):Int)-1).toNat then Int.tmod (dn p b m N F G (N-(i+1)) (0+((((i+1:Nat):Int)-1)+(m:Int)-1).toNat)*b) p else if i+1≤x then dq p b m N F G x else 0)=if i≤x then dq p b m N F G x else 0
      rw[ei,hc]
      by_cases e:x=i
      · subst e;rw[if_pos rfl,if_pos (Nat.le_refl _)]
      · rw[if_neg e]
        by_cases e2:i+1≤x
        · rw[if_pos e2,if_pos (by omega)]
        · rw[if_neg e2,if_neg (by omega)]
    conv=>whnf
    refine bcase (fun(h':decide ((j:Int)<m)=true)=>?_) fun(h':decide ((j:Int)<m)=false)=>?_
    · have h':=of_decide_eq_true h'
      have eij:0+((((i+1:Nat):Int)-1)+(j:Int)).toNat=i+j:=by omega
      have c1:=hqr i
      have b2:=mul_bounds hp2 c1 (hG j)
      have r2:=hdr (N-(i+1)) (i+j)
      have ed:dpart p (dq p b m N F G i) G (dn p b m N F G (N-(i+1))) i j (i+j)=dn p b m N F G (N-(i+1)) (i+j):=by
        unfold dpart;rw[if_neg (by omega)]
      conv=>whnf
      refine⟨i64 (by omega) (by omega),?_⟩
      conv=>whnf
      refine⟨i64 (by omega) (by omega),?_⟩
      conv=>whnf
      refine⟨by omega,?_⟩
      conv=>whnf
      refine⟨by show((i+1:Nat):Int)-1+(j:Int)<(n:Int);omega,?_⟩
      conv=>whnf
      refine⟨by omega,?_⟩
      conv=>whnf
      refine⟨by omega,?_⟩
      conv=>whnf
      refine⟨by show inR .i64 (dq p b m N F G i*G j);exact i64 (by omega) (by omega),?_⟩
      conv=>whnf
      refine⟨by show inR .i64 (dpart p (dq p b m N F G i) G (dn p b m N F G (N-(i+1))) i j (0+((((i+1:Nat):Int)-1)+(j:Int)).toNat)-dq p b m N F G i*G j);rw[eij,ed];exact i64 (by omega) (by omega),?_⟩
      conv=>whnf
      refine⟨_,refMod_ok (by omega) hp2,?_⟩
      conv=>whnf
      refine⟨by omega,?_⟩
      conv=>whnf
      refine⟨by show((i+1:Nat):Int)-1+(j:Int)<(n:Int);omega,?_⟩
      conv=>whnf
      refine⟨i64 (by omega) (by omega),?_⟩
      conv=>whnf
      refine⟨j+1,by omega,?_,by omega⟩
      refine Weak.ints [some 0,some 1] rfl ⟨⟨_,rfl,rfl,rfl,rfl,rfl,fun x hx=>updI ?_⟩,⟨_,rfl,rfl,rfl,rfl,rfl,fun _ _=>rfl⟩,trivial⟩ ⟨⟨_,rfl,rfl⟩,⟨_,_,rfl,rfl,fun _ _ _ _=>rfl⟩,⟨_,rfl,rfl,rfl⟩,⟨_,_,rfl,rfl,rfl,rfl⟩,⟨_,rfl,rfl⟩,⟨_,rfl,rfl⟩,⟨_,rfl,rfl⟩,⟨_,rfl,rfl⟩,trivial⟩
      show(if x=0+((((i+1:Nat):Int)-1)+(j:Int)).toNat then(dpart p (dq p b m N F G i) G (dn p b m N F G (N-(i+1))) i j (0+((((i+1:Nat):Int)-1)+(j:Int)).toNat)-dq p b m N F G i*G j)%p else dpart p (dq p b m N F G i) G (dn p b m N F G (N-(i+1))) i j x)=dpart p (dq p b m N F G i) G (dn p b m N F G (N-(i+1))) i (j+1) x
      rw[eij,ed]
      exact dpart_ref
    · have h':=of_decide_eq_false h'
      obtain rfl:j=m:=by omega
      conv=>whnf
      refine⟨i64 (by omega) (by omega),?_⟩
      conv=>whnf
      refine⟨i,by omega,?_,by omega⟩
      exact Weak.ints [some 0,some 1] rfl ⟨⟨_,rfl,rfl,rfl,rfl,rfl,fun x hx=>congrArg (Cell.int .i64) (congrFun (dn_step (by omega)).symm x)⟩,⟨_,rfl,rfl,rfl,rfl,rfl,fun _ _=>rfl⟩,trivial⟩ ⟨⟨_,rfl,rfl⟩,⟨_,_,rfl,rfl,fun _ _ _ _=>rfl⟩,⟨_,rfl,rfl,rfl⟩,⟨_,_,rfl,rfl,rfl,rfl⟩,⟨_,rfl,rfl⟩,⟨_,rfl,by omega⟩,trivial⟩
  · have h:=of_decide_eq_false h
    obtain rfl:k=0:=by omega
    conv=>whnf
    refine .inr ⟨fun _ _ _ _=>rfl,?_⟩
    conv=>whnf
    refine⟨_,refNormal_ok (n:=N) (a:=fun x=>if 0≤x then dq p b m N F G x else 0) (by omega) hp2 (by omega),?_⟩
    conv=>whnf
    refine .inr ⟨fun _ _ _ _=>rfl,?_⟩
    conv=>whnf
    refine⟨_,refNormal_ok (n:=n) (a:=fun x=>dn p b m N F G (N-0) (0+x)) (by omega) hp2 (by omega),?_⟩
    conv=>whnf
    have e1:nf p N (fun x=>if 0≤x then dq p b m N F G x else 0)=nf p N (dq p b m N F G):=by
      funext x;simp[nf]
    have e2:nf p n (fun x=>dn p b m N F G (N-0) (0+x))=nf p n (dn p b m N F G N):=by
      funext x;simp[nf]
    exact⟨rfl,subT2 (subRow (a:=nf p N (fun x=>if 0≤x then dq p b m N F G x else 0)) (b:=nf p N (dq p b m N F G)) (by rw[e1]) fun x _=>congrFun e1 x) (subRow (a:=nf p n (fun x=>dn p b m N F G (N-0) (0+x))) (b:=nf p n (dn p b m N F G N)) (by rw[e2]) fun x _=>congrFun e2 x)⟩
set_option maxHeartbeats 4000000 in
theorem refDivide_short {p:Int} {n0 m0 n m:Nat} {a c:Nat->Int} {F G:Nat->Int} (hp:0<p) (hp2:p≤65521) (hn0:n0≤4096) (hm0:m0≤4096) (eF:nf p n0 a=F) (eG:nf p m0 c=G) (en0:tl F n0=n) (em0:tl G m0=m) (hnm:n<m):FnOK Tryz.prog false 86 [.c (.int .i64 p),.c (il n0 a),.c (il m0 c)] (.t2 (.c .nil) (.c (il n F))):=by
  have hNf:=refNormal_ok (p:=p) (n:=n0) (a:=a) (by omega) hp2 (by omega)
  have hNg:=refNormal_ok (p:=p) (n:=m0) (a:=c) (by omega) hp2 (by omega)
  rw[eF,en0]at hNf
  rw[eG,em0]at hNg
  refine fn_ok (E:=E0) E0_ok Tryz.func86 rfl mixed (by kernel_rfl) (by kernel_rfl) ?_
  conv=>whnf
  refine .inr ?_
  conv=>whnf
  refine⟨_,hNf,?_⟩
  conv=>whnf
  refine .inr ?_
  conv=>whnf
  refine⟨_,hNg,?_⟩
  conv=>whnf
  refine bpos (show decide ((n:Int)<m)=true by simp;omega) ?_
  conv=>whnf
  exact⟨rfl,Sub.refl _⟩
end Fp
end Go.Proofs.YtibaocbpeaejkaaGreat
/- The exported functions: quotients with remainders, products; the sizes that the statements look at. -/
namespace Go.Proofs.YtibaocbpeaejkaaGreat
open Go.RowKit
namespace Fp
theorem nf_range {p:Int} {n:Nat} {a:Nat->Int} (hp:0<p) (i:Nat):0≤nf p n a i/\nf p n a i<p:=by
 unfold nf
 split
 ·exact⟨Int.emod_nonneg _ (by omega),Int.emod_lt_of_pos _ hp⟩
 ·omega
theorem tl_behind {a : Nat → Int} : ∀ {n : Nat}, (∀ i, n ≤ i → a i = 0) → ∀ i, tl a n ≤ i → a i = 0
 | 0,h=>fun i _=>h i (Nat.zero_le i)
 | n+1,h=>fun i hi=>by
  unfold tl at hi
  by_cases e:a n=0
  ·rw[if_pos e]at hi
   refine tl_behind (n:=n) (fun j hj=>?_) i hi
   rcases Nat.lt_or_ge n j with h1 | h1
   ·exact h j h1
   ·rw[show j=n by omega];exact e
  ·rw[if_neg e]at hi
   exact h i hi
theorem tl_last {a : Nat → Int} : ∀ {n : Nat}, 0 < tl a n → a (tl a n - 1) ≠ 0
 | 0,h=>absurd h (Nat.lt_irrefl 0)
 | n+1,h=>by
  unfold tl at h ⊢
  by_cases e:a n=0
  ·rw[if_pos e]at h ⊢
   exact tl_last h
  ·rw[if_neg e]
   exact e
theorem nf_behind {p:Int} {n:Nat} {a:Nat->Int} (i:Nat) (hi:tl (nf p n a) n≤i):nf p n a i=0 :=
 tl_behind (fun j hj=>by unfold nf;rw[if_neg (by omega)]) i hi
set_option maxHeartbeats 4000000 in
theorem mul_ok {p:Int} {n m:Nat} {k:Nat} {a c X:Nat->Int} (hp:md p) (hn:n≤4096) (hm:m≤4096) (hd:FnOK Tryz.prog false 69 [.c (.int .i64 p),.c (il (tl (nf p n a) n) (nf p n a)),.c (il (tl (nf p m c) m) (nf p m c))] (.c (il k X))):FnOK Tryz.prog false 25 [.c (.int .i64 p),.c (il n a),.c (il m c)] (.t2 (.c (il k X)) (.c (.int .i64 0))):=by
 have hf:=normal_ok (p:=p) (n:=n) (a:=a) (by have:=hp.1;omega) hp.2.1 (by omega)
 have hg:=normal_ok (p:=p) (n:=m) (a:=c) (by have:=hp.1;omega) hp.2.1 (by omega)
 refine fn_ok (E:=E0) E0_ok Tryz.func25 rfl mixed (by kernel_rfl) (by kernel_rfl) ?_
 conv=>whnf
 refine⟨_,modulus_ok hp,?_⟩
 conv=>whnf
 refine⟨_,hf,?_⟩
 conv=>whnf
 refine⟨_,hg,?_⟩
 conv=>whnf
 refine⟨_,hd,?_⟩
 conv=>whnf
 exact⟨rfl,Sub.refl _⟩
theorem sub_ok {P:Program} {r:Bool} {f:FuncId} {args:List V} {X Y:V} (h:FnOK P r f args X) (hs:Sub X Y):FnOK P r f args Y :=
 ⟨h.1,fun D w vs h1 h2 h3=>(h.2 D w vs h1 h2 h3).mono fun _ _ ⟨v,hv,hx,hb⟩=>⟨v,hv,hs _ _ _ hx,hb⟩⟩
theorem divide_all {p:Int} {n m:Nat} {F G:Nat->Int} (hp:md p) (hn:n≤4096) (h0:0<m) (hF:∀ i,0≤F i/\F i<p) (hG:∀ i,0≤G i/\G i<p) (hl:G (m-1)≠0) (ht:tl F n=n):FnOK Tryz.prog false 104 [.c (.int .i64 p),.c (il n F),.c (il m G)] (.t2 (.c (il (n+1-m) (dq p (inv (G (m-1)) p) m (n+1-m) F G))) (.c (il (tl (dn p (inv (G (m-1)) p) m (n+1-m) F G (n+1-m)) n) (dn p (inv (G (m-1)) p) m (n+1-m) F G (n+1-m))))):=by
 rcases Nat.lt_or_ge n m with h | h
 ·refine sub_ok (divide_short (p:=p) (F:=F) (G:=G) hn h) ?_
  rw[show n+1-m=0 by omega]
  exact subT2 (subNil rfl) (subRow ht.symm fun _ _=>rfl)
 ·exact divide_ok hp hn h0 h hF hG hl
theorem refDivide_all {p:Int} {n0 m0 n m:Nat} {a c:Nat->Int} {F G:Nat->Int} (hp:md p) (hn0:n0≤4096) (hm0:m0≤4096) (eF:nf p n0 a=F) (eG:nf p m0 c=G) (en0:tl F n0=n) (em0:tl G m0=m) (h0:0<m) (hF:∀ i,0≤F i/\F i<p) (hG:∀ i,0≤G i/\G i<p) (hl:G (m-1)≠0) (ht:tl F n=n):FnOK Tryz.prog false 86 [.c (.int .i64 p),.c (il n0 a),.c (il m0 c)] (.t2 (.c (il (tl (nf p (n+1-m) (dq p (inv (G (m-1)) p) m (n+1-m) F G)) (n+1-m)) (nf p (n+1-m) (dq p (inv (G (m-1)) p) m (n+1-m) F G)))) (.c (il (tl (nf p n (dn p (inv (G (m-1)) p) m (n+1-m) F G (n+1-m))) n) (nf p n (dn p (inv (G (m-1)) p) m (n+1-m) F G (n+1-m)))))):=by
 rcases Nat.lt_or_ge n m with h | h
 ·refine sub_ok (refDivide_short (by have:=hp.1;omega) hp.2.1 hn0 hm0 eF eG en0 em0 h) ?_
  rw[show n+1-m=0 by omega]
  have e:∀ i,i<n->nf p n F i=F i:=fun i hi=>by unfold nf;rw[if_pos hi,Int.emod_eq_of_lt (hF i).1 (hF i).2]
  exact subT2 (subNil rfl) (subRow (by show n=tl (nf p n F) n;rw[tl_congr e];exact ht.symm) fun i hi=>(e i (by have:=tl_le (nf p n F) n;have hi:i<tl (nf p n F) n:=hi;omega)).symm)
 ·exact refDivide_ok hp hn0 hm0 eF eG en0 em0 h0 h hF hG hl
end Fp
end Go.Proofs.YtibaocbpeaejkaaGreat
/- Plain laws of quotients modulo a prime: a product leaves no remainder. -/
namespace Go.Proofs.YtibaocbpeaejkaaGreat
namespace Fp
theorem cv_top {F G : Nat → Int} {m : Nat} (hG : ∀ j, m ≤ j → G j = 0) : ∀ {i k : Nat}, i + m ≤ k + 1 → cv F G i k = 0
 | 0,_,_=>rfl
 | i+1,k,h=>by
  show cv F G i k+(if i≤k then F i*G (k-i)else 0)=0
  rw[cv_top hG (by omega),hG (k-i) (by omega),Int.mul_zero]
  simp
theorem dq_lead {p b:Int} {n m:Nat} {F G:Nat->Int} (hm:0<m) (hmn:m≤n) (hF:∀ i,0≤F i/\F i<p) (hl:F (n-1)≠0) (hb:(b*G (m-1))%p=1):dq p b m (n+1-m) F G (n-m)≠0:=by
 unfold dq
 rw[show n+1-m-(n-m+1)=0 by omega,show n-m+m-1=n-1 by omega]
 show(F (n-1)*b)%p≠0
 intro h
 have e2:F (n-1)*(b*G (m-1))=F (n-1)*b*G (m-1):=by grind
 have e3:(F (n-1)*(b*G (m-1)))%p=0:=by rw[e2,Int.mul_emod,h,Int.zero_mul,Int.zero_emod]
 rw[Int.mul_emod,hb,Int.mul_one,Int.emod_emod,Int.emod_eq_of_lt (hF _).1 (hF _).2]at e3
 exact hl e3
theorem tl_full {a:Nat->Int} {n:Nat} (h:0<n->a (n-1)≠0):tl a n=n:=by
 cases n with
 | zero=>rfl
 | succ n =>
  have h:¬ a n=0:=h (by omega)
  unfold tl;rw[if_neg h]
theorem tl_tl (a:Nat->Int) (n:Nat):tl a (tl a n)=tl a n:=tl_full fun h=>tl_last h
theorem inv_spec {c p:Int} (hp:md p) (hc:0<c%p):(inv c p*c)%p=1:=by
 -- Euclid's algorithm ends
 have key:∀(k:Nat) (g r u v:Int),r.toNat=k->Eu (c%p) p g r u v->(inv c p*c)%p=1:=by
  intro k
  induction k using Nat.strongRecOn with
  | ind k ih =>
   intro g r u v hk h
   rcases Int.lt_or_le 0 r with h1 | h1
   ·obtain⟨s1,_,_,s4⟩:=h.step h1
    exact ih _ (by omega) _ _ _ _ rfl s1
   ·have h0:=h.r0
    obtain rfl:r=0:=by omega
    exact(h.inv hc (by have:=hp.1;omega) hp.2.2).2.2
 exact key _ _ _ _ _ rfl (Eu.start hc (Int.emod_lt_of_pos c (by have:=hp.1;omega)))
end Fp
end Go.Proofs.YtibaocbpeaejkaaGreat
/- Sums of lists modulo a prime. -/
namespace Go.Proofs.YtibaocbpeaejkaaGreat
open Go.RowKit
namespace Fp
set_option maxHeartbeats 4000000 in
theorem at_ok {n i:Nat} {a:Nat->Int} (ha:∀ j,n≤j->a j=0):FnOK Tryz.prog false 172 [.c (il n a),.c (.int .i64 i)] (.c (.int .i64 (a i))):=by
  refine fn_ok (E:=E0) E0_ok Tryz.func172 rfl mixed (by kernel_rfl) (by kernel_rfl) ?_
  conv=>whnf
  refine bcase (fun(h:decide ((i:Int)<n)=true)=>?_) fun(h:decide ((i:Int)<n)=false)=>?_
  · have h:=of_decide_eq_true h
    conv=>whnf
    refine⟨by omega,?_⟩
    conv=>whnf
    refine⟨by omega,?_⟩
    conv=>whnf
    exact⟨rfl,Sub.refl _⟩
  · have h:=of_decide_eq_false h
    conv=>whnf
    exact⟨rfl,subI (ha i (by omega)).symm⟩
set_option maxHeartbeats 4000000 in
theorem refAt_ok {n i:Nat} {a:Nat->Int} (ha:∀ j,n≤j->a j=0):FnOK Tryz.prog false 125 [.c (il n a),.c (.int .i64 i)] (.c (.int .i64 (a i))):=by
  refine fn_ok (E:=E0) E0_ok Tryz.func125 rfl mixed (by kernel_rfl) (by kernel_rfl) ?_
  conv=>whnf
  refine bcase (fun(h:decide ((i:Int)<n)=true)=>?_) fun(h:decide ((i:Int)<n)=false)=>?_
  · have h:=of_decide_eq_true h
    conv=>whnf
    refine⟨by omega,?_⟩
    conv=>whnf
    refine⟨by omega,?_⟩
    conv=>whnf
    exact⟨rfl,Sub.refl _⟩
  · have h:=of_decide_eq_false h
    conv=>whnf
    exact⟨rfl,subI (ha i (by omega)).symm⟩
def sm (p b:Int) (F G:Nat->Int) (i:Nat):Int:=(F i+b*G i)%p
set_option maxHeartbeats 4000000 in
theorem combine_ok {p b:Int} {n m:Nat} {F G:Nat->Int} (hp:2≤p) (hp2:p≤65521) (hb:0≤b/\b<p) (hn:n≤4096) (hm:m≤4096) (hF:∀ i,0≤F i/\F i<p) (hG:∀ i,0≤G i/\G i<p) (hFz:∀ j,n≤j->F j=0) (hGz:∀ j,m≤j->G j=0):FnOK Tryz.prog false 132 [.c (.int .i64 p),.c (il n F),.c (il m G),.c (.int .i64 b)] (.c (il (tl (sm p b F G) (max n m)) (sm p b F G))):=by
  refine fn_ok (E:=E0) E0_ok Tryz.func132 rfl mixed (by kernel_rfl) (by kernel_rfl) ?_
  have eK:(if(m:Int) > (n:Int)then(m:Int)else(n:Int))=((max n m:Nat):Int):=by split <;> omega
  have hK:max n m≤4096:=by omega
  have hnK:n≤max n m:=by omega
  have hmK:m≤max n m:=by omega
  generalize max n m=K at *
  conv=>whnf
  refine⟨by rw[eK];omega,by rw[eK];omega,by rw[eK];omega,by show((8:Nat):Int)*(if(m:Int) > (n:Int)then(m:Int)else(n:Int))≤_;rw[eK];omega,?_⟩
  conv=>whnf
  refine loop_ints (fun i:Nat=>ist [(0,.c (.int .i64 p)),(1,.c (il n F)),(2,.c (il m G)),(3,.c (.int .i64 b)),(9,.c (.gs 0 0)),(18,.c (.int .i64 K)),(19,.c (.int .i64 i))] [(3,K,fun x=>if x<i then sm p b F G x else 0)]) (fun i=>K-i) (fun i=>i≤K) 0 rfl ?_ (Nat.zero_le _) fun i hi=>?_
  · refine Weak.ints [some 0] rfl ⟨⟨_,rfl,rfl,rfl,?_,rfl,fun x hx=>?_⟩,trivial⟩ ⟨⟨_,rfl,rfl⟩,⟨_,_,rfl,rfl,fun _ _ _ _=>rfl⟩,⟨_,_,rfl,rfl,fun _ _ _ _=>rfl⟩,⟨_,rfl,rfl⟩,⟨_,rfl,rfl,rfl⟩,⟨_,rfl,?_⟩,⟨_,rfl,rfl⟩,trivial⟩
    · show(if(m:Int) > (n:Int)then(m:Int)else(n:Int)).toNat=K
      rw[eK];rfl
    · exact congrArg (Cell.int .i64) (show(0:Int)=if x<0 then sm p b F G x else 0 by rw[if_neg (Nat.not_lt_zero x)])
    · show(((if(m:Int) > (n:Int)then(m:Int)else(n:Int)).toNat:Nat):Int)=(K:Int)
      rw[eK];rfl
  conv=>whnf
  refine bcase (fun(h:decide ((i:Int)<K)=true)=>?_) fun(h:decide ((i:Int)<K)=false)=>?_
  · have h:=of_decide_eq_true h
    have f1:=hF i
    have b1:=mul_bounds hp2 hb (hG i)
    conv=>whnf
    refine⟨_,at_ok (i:=i) hFz,?_⟩
    conv=>whnf
    refine⟨_,at_ok (i:=i) hGz,?_⟩
    conv=>whnf
    refine⟨i64 (by omega) (by omega),?_⟩
    conv=>whnf
    refine⟨i64 (by omega) (by omega),?_⟩
    conv=>whnf
    refine⟨by omega,?_⟩
    conv=>whnf
    refine⟨by omega,?_⟩
    conv=>whnf
    refine⟨by show(i:Int)<(K:Int);omega,?_⟩
    conv=>whnf
    refine⟨i64 (by omega) (by omega),?_⟩
    conv=>whnf
    refine⟨i+1,by omega,?_,by omega⟩
    refine Weak.ints [some 0] rfl ⟨⟨_,rfl,rfl,rfl,rfl,rfl,fun x hx=>updI ?_⟩,trivial⟩ ⟨⟨_,rfl,rfl⟩,⟨_,_,rfl,rfl,fun _ _ _ _=>rfl⟩,⟨_,_,rfl,rfl,fun _ _ _ _=>rfl⟩,⟨_,rfl,rfl⟩,⟨_,rfl,rfl,rfl⟩,⟨_,rfl,rfl⟩,⟨_,rfl,rfl⟩,trivial⟩
    show(if x=i then Int.tmod (F i+b*G i) p else if x<i then sm p b F G x else 0)=if x<i+1 then sm p b F G x else 0
    rw[rem_eq (by omega)]
    by_cases e:x=i
    · subst e;rw[if_pos rfl,if_pos (by omega)];rfl
    · rw[if_neg e]
      by_cases e2:x<i
      · rw[if_pos e2,if_pos (by omega)]
      · rw[if_neg e2,if_neg (by omega)]
  · have h:=of_decide_eq_false h
    obtain rfl:i=K:=by omega
    conv=>whnf
    refine⟨fun _ _ _ _=>rfl,?_⟩
    conv=>whnf
    refine⟨_,trimmed_ok (n:=i) (a:=fun x=>if x<i then sm p b F G x else 0) (by omega),?_⟩
    conv=>whnf
    have e:∀ x,x<i->(if x<i then sm p b F G x else 0)=sm p b F G x:=fun x hx=>if_pos hx
    exact⟨rfl,subRow (a:=fun x=>if x<i then sm p b F G x else 0) (b:=sm p b F G) (tl_congr e) fun x hx=>e x (by have:=tl_le (sm p b F G) i;omega)⟩
theorem sm_behind {p b:Int} {n m:Nat} {F G:Nat->Int} (hFz:∀ j,n≤j->F j=0) (hGz:∀ j,m≤j->G j=0) (i:Nat) (h:max n m≤i):sm p b F G i=0:=by
  unfold sm
  rw[hFz i (by omega),hGz i (by omega),Int.mul_zero,Int.add_zero,Int.zero_emod]
set_option maxHeartbeats 4000000 in
theorem refAdd_ok {p:Int} {n0 m0 n m:Nat} {a c:Nat->Int} {F G:Nat->Int} (hp:2≤p) (hp2:p≤65521) (hn0:n0≤4096) (hm0:m0≤4096) (eF:nf p n0 a=F) (eG:nf p m0 c=G) (en0:tl F n0=n) (em0:tl G m0=m):FnOK Tryz.prog false 89 [.c (.int .i64 p),.c (il n0 a),.c (il m0 c)] (.c (il (tl (sm p 1 F G) (max n m)) (sm p 1 F G))):=by
  have hNf:=refNormal_ok (p:=p) (n:=n0) (a:=a) (by omega) hp2 (by omega)
  have hNg:=refNormal_ok (p:=p) (n:=m0) (a:=c) (by omega) hp2 (by omega)
  have hnn:n≤n0:=by rw[← en0];exact tl_le _ _
  have hmm:m≤m0:=by rw[← em0];exact tl_le _ _
  have hF:∀ i,0≤F i/\F i<p:=fun i=>by rw[← eF];exact nf_range (by omega) i
  have hG:∀ i,0≤G i/\G i<p:=fun i=>by rw[← eG];exact nf_range (by omega) i
  have hFz:∀ j,n≤j->F j=0:=fun j h=>by rw[← eF];exact nf_behind j (by rw[eF,en0];exact h)
  have hGz:∀ j,m≤j->G j=0:=fun j h=>by rw[← eG];exact nf_behind j (by rw[eG,em0];exact h)
  rw[eF,en0]at hNf
  rw[eG,em0]at hNg
  have hK:max n m≤4096:=by omega
  have hnK:n≤max n m:=by omega
  have hmK:m≤max n m:=by omega
  have hor:∀ i,i<max n m↔i<n∨i<m:=fun i=>by omega
  have hz:=sm_behind (p:=p) (b:=1) hFz hGz
  generalize max n m=K at *
  refine fn_ok (E:=E0) E0_ok Tryz.func89 rfl mixed (by kernel_rfl) (by kernel_rfl) ?_
  conv=>whnf
  refine .inr ?_
  conv=>whnf
  refine⟨_,hNf,?_⟩
  conv=>whnf
  refine .inr ?_
  conv=>whnf
  refine⟨_,hNg,?_⟩
  conv=>whnf
  refine loop_ints (fun i:Nat=>ist [(0,.c (.int .i64 p)),(7,.c (il n F)),(8,.c (il m G)),(9,.c (.gs 0 0)),(10,.c (.int .i64 i))] [(3,i,fun x=>F x+G x)]) (fun i=>K-i) (fun i=>i≤K) 0 rfl ?_ (Nat.zero_le _) fun i hi=>?_
  · exact Weak.ints [none] rfl ⟨rfl,trivial⟩ ⟨⟨_,rfl,rfl⟩,⟨_,_,rfl,rfl,fun _ _ _ _=>rfl⟩,⟨_,_,rfl,rfl,fun _ _ _ _=>rfl⟩,rfl,⟨_,rfl,rfl⟩,trivial⟩
  have f1:=hF i
  have g1:=hG i
  conv=>whnf
  refine bcase (fun(h:gw false (decide ((i:Int)<n))=true)=>?_) fun(h:gw false (decide ((i:Int)<n))=false)=>?_
  · have h:=of_decide_eq_false (gwf h)
    conv=>whnf
    refine bcase (fun(h':decide ((i:Int)<m)=true)=>?_) fun(h':decide ((i:Int)<m)=false)=>?_
    · have h':=of_decide_eq_true h'
      conv=>whnf
      refine⟨_,refAt_ok (i:=i) hFz,?_⟩
      conv=>whnf
      refine⟨_,refAt_ok (i:=i) hGz,?_⟩
      conv=>whnf
      refine⟨i64 (by omega) (by omega),?_⟩
      conv=>whnf
      refine⟨by show i+1≤16777216;omega,fun x y hx hy=>?_,?_⟩
      · obtain rfl : x = 0 := by have h : x < 1 := hx
                                 omega
        obtain rfl : y = 0 := by have h : y < 1 := hy
                                 omega
        exact⟨rfl,fun h=>by cases h⟩
      conv=>whnf
      refine⟨i64 (by omega) (by omega),?_⟩
      conv=>whnf
      refine⟨i+1,by have:=(hor i).2 (.inr (by omega));omega,Weak.ints [some 0] rfl ⟨⟨_,rfl,rfl,rfl,rfl,rfl,fun j hj=>appI ?_ (show i+1≤i+1 from Nat.le_refl _) hj⟩,trivial⟩ ⟨⟨_,rfl,rfl⟩,⟨_,_,rfl,rfl,fun _ _ _ _=>rfl⟩,⟨_,_,rfl,rfl,fun _ _ _ _=>rfl⟩,⟨_,rfl,rfl,rfl⟩,⟨_,rfl,rfl⟩,trivial⟩,by have:=(hor i).2 (.inr (by omega));omega⟩
      show(if j=i then F i+G i else F j+G j)=F j+G j
      by_cases e:j=i
      · subst e;rw[if_pos rfl]
      · rw[if_neg e]
    · have h':=of_decide_eq_false h'
      obtain rfl:i=K:=by
        rcases Nat.lt_or_ge i K with h2 | h2
        · rcases(hor i).1 h2 with h3 | h3 <;> omega
        · omega
      conv=>whnf
      refine .inr ⟨fun _ _ _ _=>rfl,?_⟩
      conv=>whnf
      refine⟨_,refNormal_ok (n:=i) (a:=fun x=>F x+G x) (by omega) hp2 (by omega),?_⟩
      conv=>whnf
      have e1:nf p i (fun x=>F x+G x)=sm p 1 F G:=by
        funext x
        unfold nf
        by_cases h:x<i
        · rw[if_pos h];unfold sm;rw[Int.one_mul]
        · rw[if_neg h,hz x (by omega)]
      exact⟨rfl,subRow (a:=nf p i (fun x=>F x+G x)) (b:=sm p 1 F G) (by rw[e1]) fun x _=>congrFun e1 x⟩
  · have h:=of_decide_eq_true (gwf' h)
    conv=>whnf
    refine⟨_,refAt_ok (i:=i) hFz,?_⟩
    conv=>whnf
    refine⟨_,refAt_ok (i:=i) hGz,?_⟩
    conv=>whnf
    refine⟨i64 (by omega) (by omega),?_⟩
    conv=>whnf
    refine⟨by show i+1≤16777216;omega,fun x y hx hy=>?_,?_⟩
    · obtain rfl : x = 0 := by have h : x < 1 := hx
                               omega
      obtain rfl : y = 0 := by have h : y < 1 := hy
                               omega
      exact⟨rfl,fun h=>by cases h⟩
    conv=>whnf
    refine⟨i64 (by omega) (by omega),?_⟩
    conv=>whnf
    refine⟨i+1,by omega,Weak.ints [some 0] rfl ⟨⟨_,rfl,rfl,rfl,rfl,rfl,fun j hj=>appI ?_ (show i+1≤i+1 from Nat.le_refl _) hj⟩,trivial⟩ ⟨⟨_,rfl,rfl⟩,⟨_,_,rfl,rfl,fun _ _ _ _=>rfl⟩,⟨_,_,rfl,rfl,fun _ _ _ _=>rfl⟩,⟨_,rfl,rfl,rfl⟩,⟨_,rfl,rfl⟩,trivial⟩,by omega⟩
    show(if j=i then F i+G i else F j+G j)=F j+G j
    by_cases e:j=i
    · subst e;rw[if_pos rfl]
    · rw[if_neg e]
end Fp
end Go.Proofs.YtibaocbpeaejkaaGreat
/- Multiples and products in the reference. -/
namespace Go.Proofs.YtibaocbpeaejkaaGreat
open Go.RowKit
namespace Fp
def sc (p k:Int) (F:Nat->Int) (i:Nat):Int:=(k%p*F i)%p
set_option maxHeartbeats 4000000 in
theorem refScale_ok {p k:Int} {n0 n:Nat} {a F:Nat->Int} (hp:2≤p) (hp2:p≤65521) (hn0:n0≤4096) (eF:nf p n0 a=F) (en0:tl F n0=n):FnOK Tryz.prog false 90 [.c (.int .i64 p),.c (.int .i64 k),.c (il n0 a)] (.c (il (tl (sc p k F) n) (sc p k F))):=by
  have hNf:=refNormal_ok (p:=p) (n:=n0) (a:=a) (by omega) hp2 (by omega)
  have hnn:n≤n0:=by rw[← en0];exact tl_le _ _
  have hF:∀ i,0≤F i/\F i<p:=fun i=>by rw[← eF];exact nf_range (by omega) i
  have hFz:∀ j,n≤j->F j=0:=fun j h=>by rw[← eF];exact nf_behind j (by rw[eF,en0];exact h)
  rw[eF,en0]at hNf
  have hk:0≤k%p/\k%p<p:=⟨Int.emod_nonneg _ (by omega),Int.emod_lt_of_pos _ (by omega)⟩
  refine fn_ok (E:=E0) E0_ok Tryz.func90 rfl mixed (by kernel_rfl) (by kernel_rfl) ?_
  conv=>whnf
  refine .inr ?_
  conv=>whnf
  refine⟨_,hNf,?_⟩
  conv=>whnf
  refine loop_ints (fun i:Nat=>ist [(0,.c (.int .i64 p)),(1,.c (.int .i64 k)),(7,.c (il n F)),(8,.c (.gs 0 0)),(9,.c (.int .i64 i))] [(3,i,fun x=>k%p*F x)]) (fun i=>n-i) (fun i=>i≤n) 0 rfl ?_ (Nat.zero_le _) fun i hi=>?_
  · exact Weak.ints [none] rfl ⟨rfl,trivial⟩ ⟨⟨_,rfl,rfl⟩,⟨_,rfl,rfl⟩,⟨_,_,rfl,rfl,fun _ _ _ _=>rfl⟩,rfl,⟨_,rfl,rfl⟩,trivial⟩
  have b1:=mul_bounds hp2 hk (hF i)
  conv=>whnf
  refine bcase (fun(h:decide ((i:Int)<n)=true)=>?_) fun(h:decide ((i:Int)<n)=false)=>?_
  · have h:=of_decide_eq_true h
    conv=>whnf
    refine⟨_,refMod_ok (a:=k) (by omega) hp2,?_⟩
    conv=>whnf
    refine⟨by omega,?_⟩
    conv=>whnf
    refine⟨by omega,?_⟩
    conv=>whnf
    refine⟨by show inR .i64 (k%p*F i);exact i64 (by omega) (by omega),?_⟩
    conv=>whnf
    refine .inr ?_
    conv=>whnf
    refine⟨rfl,?_⟩
    conv=>whnf
    refine⟨by show i+1≤16777216;omega,fun x y hx hy=>?_,?_⟩
    · obtain rfl : x = 0 := by have h : x < 1 := hx
                               omega
      obtain rfl : y = 0 := by have h : y < 1 := hy
                               omega
      exact⟨rfl,fun h=>by cases h⟩
    conv=>whnf
    refine⟨i64 (by omega) (by omega),?_⟩
    conv=>whnf
    refine⟨i+1,by omega,?_,by omega⟩
    refine Weak.ints [some 0] rfl ⟨⟨_,rfl,rfl,rfl,rfl,rfl,fun j hj=>appI ?_ (show i+1≤i+1 from Nat.le_refl _) hj⟩,trivial⟩ ⟨⟨_,rfl,rfl⟩,⟨_,rfl,rfl⟩,⟨_,_,rfl,rfl,fun _ _ _ _=>rfl⟩,⟨_,rfl,rfl,rfl⟩,⟨_,rfl,rfl⟩,trivial⟩
    show(if j=i then k%p*F i else k%p*F j)=k%p*F j
    by_cases e:j=i
    · subst e;rw[if_pos rfl]
    · rw[if_neg e]
  · have h:=of_decide_eq_false h
    obtain rfl:i=n:=by omega
    conv=>whnf
    refine .inr ⟨fun _ _ _ _=>rfl,?_⟩
    conv=>whnf
    refine⟨_,refNormal_ok (n:=i) (a:=fun x=>k%p*F x) (by omega) hp2 (by omega),?_⟩
    conv=>whnf
    have e1:nf p i (fun x=>k%p*F x)=sc p k F:=by
      funext x
      unfold nf
      by_cases h:x<i
      · rw[if_pos h];rfl
      · rw[if_neg h];unfold sc;rw[hFz x (by omega),Int.mul_zero,Int.zero_emod]
    exact⟨rfl,subRow (a:=nf p i (fun x=>k%p*F x)) (b:=sc p k F) (by rw[e1]) fun x _=>congrFun e1 x⟩
set_option maxHeartbeats 4000000 in
theorem refMul_ok {p:Int} {n0 m0 n m:Nat} {a c F G:Nat->Int} (hp:2≤p) (hp2:p≤65521) (hn0:n0≤1024) (hm0:m0≤1024) (eF:nf p n0 a=F) (eG:nf p m0 c=G) (en0:tl F n0=n) (em0:tl G m0=m):FnOK Tryz.prog false 87 [.c (.int .i64 p),.c (il n0 a),.c (il m0 c)] (.c (il (tl (pr p F G n) (n+m-1)) (pr p F G n))):=by
  have hNf:=refNormal_ok (p:=p) (n:=n0) (a:=a) (by omega) hp2 (by omega)
  have hNg:=refNormal_ok (p:=p) (n:=m0) (a:=c) (by omega) hp2 (by omega)
  have hnn:n≤n0:=by rw[← en0];exact tl_le _ _
  have hmm:m≤m0:=by rw[← em0];exact tl_le _ _
  have hF:∀ i,0≤F i/\F i<p:=fun i=>by rw[← eF];exact nf_range (by omega) i
  have hG:∀ i,0≤G i/\G i<p:=fun i=>by rw[← eG];exact nf_range (by omega) i
  have hGz:∀ j,m≤j->G j=0:=fun j h=>by rw[← eG];exact nf_behind j (by rw[eG,em0];exact h)
  have hG0:=hGz
  rw[eF,en0]at hNf
  rw[eG,em0]at hNg
  refine fn_ok (E:=E0) E0_ok Tryz.func87 rfl mixed (by kernel_rfl) (by kernel_rfl) ?_
  conv=>whnf
  refine .inr ?_
  conv=>whnf
  refine⟨_,hNf,?_⟩
  conv=>whnf
  refine .inr ?_
  conv=>whnf
  refine⟨_,hNg,?_⟩
  conv=>whnf
  refine bcase (fun(h1:gw false (decide ((n:Int)=0))=true)=>?_) fun(h1:gw false (decide ((n:Int)=0))=false)=>?_
  · have h1:=of_decide_eq_false (gwf h1)
    conv=>whnf
    refine bcase (fun(h2:decide ((m:Int)=0)=true)=>?_) fun(h2:decide ((m:Int)=0)=false)=>?_
    · have h2:=of_decide_eq_true h2
      conv=>whnf
      exact⟨rfl,subNil (tl_zero fun i _=>by unfold pr;rw[cv_zero fun j=>hG0 j (by omega)];rfl)⟩
    · have h2:=of_decide_eq_false h2
      conv=>whnf
      refine⟨i64 (by omega) (by omega),?_⟩
      conv=>whnf
      refine⟨i64 (by omega) (by omega),?_⟩
      conv=>whnf
      refine⟨by omega,by omega,by omega,by show((8:Nat):Int)*((n:Int)+(m:Int)-1)≤_;omega,?_⟩
      conv=>whnf
      refine loop_ints (fun i:Nat=>ist [(0,.c (.int .i64 p)),(7,.c (il n F)),(8,.c (il m G)),(9,.c (.gs 0 0)),(10,.c (.int .i64 i))] [(3,n+m-1,ps p F G i 0)]) (fun i=>n-i) (fun i=>i≤n) 0 rfl ?_ (Nat.zero_le _) fun i hi=>?_
      · refine Weak.ints [some 0] rfl ⟨⟨_,rfl,rfl,rfl,?_,rfl,fun i hi=>?_⟩,trivial⟩ ⟨⟨_,rfl,rfl⟩,⟨_,_,rfl,rfl,fun _ _ _ _=>rfl⟩,⟨_,_,rfl,rfl,fun _ _ _ _=>rfl⟩,⟨_,rfl,rfl,rfl⟩,⟨_,rfl,rfl⟩,trivial⟩
        · show((n:Int)+(m:Int)-1).toNat=n+m-1
          omega
        · exact congrArg (Cell.int .i64) (show(0:Int)=ps p F G 0 0 i by rw[ps_zero];simp[cv])
      conv=>whnf
      refine bcase (fun(h:decide ((i:Int)<n)=true)=>?_) fun(h:decide ((i:Int)<n)=false)=>?_
      · have h:=of_decide_eq_true h
        conv=>whnf
        refine loop_ints (fun j:Nat=>ist [(0,.c (.int .i64 p)),(7,.c (il n F)),(8,.c (il m G)),(9,.c (.gs 0 0)),(10,.c (.int .i64 i)),(11,.c (.int .i64 j))] [(3,n+m-1,ps p F G i j)]) (fun j=>m-j) (fun j=>j≤m) 0 rfl ?_ (Nat.zero_le _) fun j hj=>?_
        · exact Weak.ints [some 0] rfl ⟨⟨_,rfl,rfl,rfl,rfl,rfl,fun _ _=>rfl⟩,trivial⟩ ⟨⟨_,rfl,rfl⟩,⟨_,_,rfl,rfl,fun _ _ _ _=>rfl⟩,⟨_,_,rfl,rfl,fun _ _ _ _=>rfl⟩,⟨_,rfl,rfl,rfl⟩,⟨_,rfl,rfl⟩,⟨_,rfl,rfl⟩,trivial⟩
        conv=>whnf
        refine bcase (fun(h':decide ((j:Int)<m)=true)=>?_) fun(h':decide ((j:Int)<m)=false)=>?_
        · have h':=of_decide_eq_true h'
          have b1:=mul_bounds hp2 (hF i) (hG j)
          have b2:=ps_range (p:=p) (F:=F) (G:=G) (i:=i) (j:=j) (n:=i+j) (by omega)
          conv=>whnf
          refine⟨i64 (by omega) (by omega),?_⟩
          conv=>whnf
          refine⟨i64 (by omega) (by omega),?_⟩
          conv=>whnf
          refine⟨by omega,?_⟩
          conv=>whnf
          refine⟨by show(i:Int)+(j:Int)<((n+m-1:Nat):Int);omega,?_⟩
          conv=>whnf
          have eij:((i:Int)+(j:Int)).toNat=i+j:=by omega
          refine⟨by omega,?_⟩
          conv=>whnf
          refine⟨by omega,?_⟩
          conv=>whnf
          refine⟨by omega,?_⟩
          conv=>whnf
          refine⟨by omega,?_⟩
          conv=>whnf
          refine⟨by show inR .i64 (F i*G j);exact i64 (by omega) (by omega),?_⟩
          conv=>whnf
          refine⟨by show inR .i64 (ps p F G i j ((i:Int)+(j:Int)).toNat+F i*G j);rw[eij];exact i64 (by omega) (by omega),?_⟩
          conv=>whnf
          refine⟨by omega,?_⟩
          conv=>whnf
          refine⟨by omega,?_⟩
          conv=>whnf
          refine⟨by show(i:Int)+(j:Int)<((n+m-1:Nat):Int);omega,?_⟩
          conv=>whnf
          refine⟨i64 (by omega) (by omega),?_⟩
          conv=>whnf
          refine⟨j+1,by omega,?_,by omega⟩
          refine Weak.ints [some 0] rfl ⟨⟨_,rfl,rfl,rfl,rfl,rfl,fun k hk=>updI ?_⟩,trivial⟩ ⟨⟨_,rfl,rfl⟩,⟨_,_,rfl,rfl,fun _ _ _ _=>rfl⟩,⟨_,_,rfl,rfl,fun _ _ _ _=>rfl⟩,⟨_,rfl,rfl,rfl⟩,⟨_,rfl,rfl⟩,⟨_,rfl,rfl⟩,trivial⟩
          show(if k=((i:Int)+(j:Int)).toNat then Int.tmod (ps p F G i j ((i:Int)+(j:Int)).toNat+F i*G j) p else ps p F G i j k)=ps p F G i (j+1) k
          rw[eij,rem_eq (by omega),← ps_step]
          by_cases e:k=i+j
          · subst e;rfl
          · rw[if_neg e,if_neg e]
        · have h':=of_decide_eq_false h'
          obtain rfl:j=m:=by omega
          conv=>whnf
          refine⟨i64 (by omega) (by omega),?_⟩
          conv=>whnf
          refine⟨i+1,by omega,?_,by omega⟩
          exact Weak.ints [some 0] rfl ⟨⟨_,rfl,rfl,rfl,rfl,rfl,fun k hk=>congrArg (Cell.int .i64) (ps_full hG0)⟩,trivial⟩ ⟨⟨_,rfl,rfl⟩,⟨_,_,rfl,rfl,fun _ _ _ _=>rfl⟩,⟨_,_,rfl,rfl,fun _ _ _ _=>rfl⟩,⟨_,rfl,rfl,rfl⟩,⟨_,rfl,rfl⟩,trivial⟩
      · have h:=of_decide_eq_false h
        obtain rfl:i=n:=by omega
        conv=>whnf
        refine .inr ⟨fun _ _ _ _=>rfl,?_⟩
        conv=>whnf
        refine⟨_,refNormal_ok (n:=i+m-1) (a:=ps p F G i 0) (by omega) hp2 (by omega),?_⟩
        conv=>whnf
        have e1:nf p (i+m-1) (ps p F G i 0)=pr p F G i:=by
          funext x
          unfold nf
          by_cases h:x<i+m-1
          · rw[if_pos h,ps_zero,Int.emod_emod];rfl
          · rw[if_neg h];unfold pr;rw[cv_top hGz (by omega),Int.zero_emod]
        exact⟨rfl,subRow (a:=nf p (i+m-1) (ps p F G i 0)) (b:=pr p F G i) (by rw[e1]) fun x _=>congrFun e1 x⟩
  · have h1:=of_decide_eq_true (gwf' h1)
    conv=>whnf
    exact⟨rfl,subNil (tl_zero fun i _=>by rw[show n=0 by omega];exact Int.zero_emod p)⟩
end Fp
end Go.Proofs.YtibaocbpeaejkaaGreat
/- Differences, multiples, monic polynomials. -/
namespace Go.Proofs.YtibaocbpeaejkaaGreat
open Go.RowKit
namespace Fp
theorem arg_ok {P:Program} {r:Bool} {f:FuncId} {args args':List V} {X:V} (h:FnOK P r f args X) (hs:∀ D w vs,VRels D w [] args' vs->VRels D w [] args vs):FnOK P r f args' X :=
 ⟨h.1,fun D w vs h1 h2 h3=>h.2 D w vs h1 h2 (hs _ _ _ h3)⟩
theorem tl_more {a : Nat → Int} {k : Nat} (h : ∀ i, k ≤ i → a i = 0) : ∀ {k' : Nat}, k ≤ k' → tl a k' = tl a k
 | 0,hk=>by rw[show k=0 by omega]
 | k'+1,hk=>by
  rcases Nat.lt_or_ge k' k with h1 | h1
  ·rw[show k=k'+1 by omega]
  ·rw[← tl_more h h1]
   show(if a k'=0 then tl a k' else k'+1)=_
   rw[if_pos (h k' h1)]
theorem nf_self {p:Int} {n:Nat} {F:Nat->Int} (hF:∀ i,0≤F i/\F i<p) (hFz:∀ j,n≤j->F j=0):nf p n F=F:=by
 funext i
 unfold nf
 by_cases h:i<n
 ·rw[if_pos h,Int.emod_eq_of_lt (hF i).1 (hF i).2]
 ·rw[if_neg h,hFz i (by omega)]
theorem sc_range {p k:Int} {F:Nat->Int} (hp:0<p) (i:Nat):0≤sc p k F i/\sc p k F i<p:=⟨Int.emod_nonneg _ (by omega),Int.emod_lt_of_pos _ hp⟩
theorem sc_behind {p k:Int} {n:Nat} {F:Nat->Int} (hFz:∀ j,n≤j->F j=0) (j:Nat) (h:n≤j):sc p k F j=0:=by
 unfold sc;rw[hFz j h,Int.mul_zero,Int.zero_emod]
theorem sm_sc {p:Int} {F G:Nat->Int} (hp:2≤p):sm p 1 F (sc p (-1) G)=sm p (p-1) F G:=by
 funext i
 unfold sm sc
 rw[Int.one_mul]
 have e:(-1:Int)%p=p-1:=by
  have:=Int.add_mul_emod_self_left (-1) p 1
  rw[Int.mul_one]at this
  rw[← this,show -1+p=p-1 by omega]
  exact Int.emod_eq_of_lt (by omega) (by omega)
 rw[e,Int.add_emod,Int.emod_emod,← Int.add_emod]
set_option maxHeartbeats 4000000 in
theorem refSub_ok {p:Int} {n0 m0 n m:Nat} {a c F G:Nat->Int} (hp:2≤p) (hp2:p≤65521) (hn0:n0≤4096) (hm0:m0≤4096) (eF:nf p n0 a=F) (eG:nf p m0 c=G) (en0:tl F n0=n) (em0:tl G m0=m):FnOK Tryz.prog false 41 [.c (.int .i64 p),.c (il n0 a),.c (il m0 c)] (.c (il (tl (sm p (p-1) F G) (max n m)) (sm p (p-1) F G))):=by
 have hG:∀ i,0≤G i/\G i<p:=fun i=>by rw[← eG];exact nf_range (by omega) i
 have hGz:∀ j,m≤j->G j=0:=fun j h=>by rw[← eG];exact nf_behind j (by rw[eG,em0];exact h)
 have hmm:m≤m0:=by rw[← em0];exact tl_le _ _
 have hle:=tl_le (sc p (-1) G) m
 have hS:=refScale_ok (p:=p) (k := -1) (n0:=m0) (a:=c) hp hp2 hm0 eG em0
 have hSz:∀ j,tl (sc p (-1) G) m≤j->sc p (-1) G j=0:=tl_behind (sc_behind hGz)
 have hA:=refAdd_ok (p:=p) (n0:=n0) (m0:=tl (sc p (-1) G) m) (a:=a) (c:=sc p (-1) G) hp hp2 hn0 (by omega) eF (nf_self (sc_range (by omega)) hSz) en0 (tl_tl _ _)
 rw[sm_sc hp]at hA
 have el:tl (sm p (p-1) F G) (max n (tl (sc p (-1) G) m))=tl (sm p (p-1) F G) (max n m):=by
  have hFz:∀ j,n≤j->F j=0:=fun j h=>by rw[← eF];exact nf_behind j (by rw[eF,en0];exact h)
  refine(tl_more (fun i h=>?_) (show max n (tl (sc p (-1) G) m)≤max n m by omega)).symm
  rw[← sm_sc hp]
  exact sm_behind hFz hSz i h
 rw[el]at hA
 refine fn_ok (E:=E0) E0_ok Tryz.func41 rfl mixed (by kernel_rfl) (by kernel_rfl) ?_
 conv=>whnf
 refine⟨_,hS,?_⟩
 conv=>whnf
 refine⟨_,hA,?_⟩
 conv=>whnf
 exact⟨rfl,Sub.refl _⟩
set_option maxHeartbeats 4000000 in
theorem scale_ok {p b:Int} {m:Nat} {G:Nat->Int} (hp:2≤p) (hp2:p≤65521) (hb:0≤b/\b<p) (hm:m≤4096) (hG:∀ i,0≤G i/\G i<p) (hGz:∀ j,m≤j->G j=0):FnOK Tryz.prog false 107 [.c (.int .i64 p),.c (il m G),.c (.int .i64 b)] (.c (il (tl (sc p b G) m) (sc p b G))):=by
 have e:sm p b (fun _=>0) G=sc p b G:=by
  funext i;unfold sm sc;rw[Int.zero_add,Int.emod_eq_of_lt hb.1 hb.2]
 have hc:=combine_ok (p:=p) (b:=b) (n:=0) (m:=m) (F:=fun _=>0) (G:=G) hp hp2 hb (by omega) hm (fun _=>⟨Int.le_refl _,by omega⟩) hG (fun _ _=>rfl) hGz
 rw[e,Nat.zero_max]at hc
 have hc':FnOK Tryz.prog false 132 [.c (.int .i64 p),.c .nil,.c (il m G),.c (.int .i64 b)] (.c (il (tl (sc p b G) m) (sc p b G))) :=
  arg_ok hc fun D w vs h=>match vs,h with
   | _ :: _ :: _,⟨x,y,z⟩=>⟨x,subNil rfl D w _ y,z⟩
 refine fn_ok (E:=E0) E0_ok Tryz.func107 rfl mixed (by kernel_rfl) (by kernel_rfl) ?_
 conv=>whnf
 refine⟨_,hc',?_⟩
 conv=>whnf
 exact⟨rfl,Sub.refl _⟩
set_option maxHeartbeats 4000000 in
theorem monic_ok {p:Int} {n:Nat} {F:Nat->Int} (hp:md p) (hn:n≤4096) (hF:∀ i,0≤F i/\F i<p) (hFz:∀ j,n≤j->F j=0) (hl:0<n->F (n-1)≠0):FnOK Tryz.prog false 61 [.c (.int .i64 p),.c (il n F)] (.c (il (tl (sc p (inv (F (n-1)) p) F) n) (sc p (inv (F (n-1)) p) F))):=by
 have hp0:0<p:=by have:=hp.1;omega
 have hs:=scale_ok (p:=p) (b:=inv (F (n-1)) p) (m:=n) (G:=F) hp.1 hp.2.1 (inv_range hp0) hn hF hFz
 refine fn_ok (E:=E0) E0_ok Tryz.func61 rfl mixed (by kernel_rfl) (by kernel_rfl) ?_
 conv=>whnf
 refine bcase (fun(h:decide ((n:Int)=0)=true)=>?_) fun(h:decide ((n:Int)=0)=false)=>?_
 ·have h:=of_decide_eq_true h
  obtain rfl:n=0:=by omega
  conv=>whnf
  exact⟨rfl,subNil rfl⟩
 ·have h:=of_decide_eq_false h
  have em:((n:Int)-1).toNat=n-1:=by omega
  have hinv:=inverse_ok (c:=F (n-1)) hp (by
   rw[Int.emod_eq_of_lt (hF _).1 (hF _).2]
   have:=(hF (n-1)).1
   have:=hl (by omega)
   omega)
  conv=>whnf
  refine⟨i64 (by omega) (by omega),?_⟩
  conv=>whnf
  refine⟨by omega,?_⟩
  conv=>whnf
  refine⟨by omega,?_⟩
  conv=>whnf
  refine⟨_,(show FnOK Tryz.prog false 108 [.c (.int .i64 (F ((n:Int)-1).toNat)),.c (.int .i64 p)] (.c (.int .i64 (inv (F (n-1)) p)))by rw[em];exact hinv),?_⟩
  conv=>whnf
  refine⟨_,hs,?_⟩
  conv=>whnf
  exact⟨rfl,Sub.refl _⟩
set_option maxHeartbeats 4000000 in
theorem refMonic_ok {p:Int} {n0 n:Nat} {a F:Nat->Int} (hp:md p) (hn0:n0≤4096) (eF:nf p n0 a=F) (en0:tl F n0=n):FnOK Tryz.prog false 88 [.c (.int .i64 p),.c (il n0 a)] (.c (il (tl (sc p (inv (F (n-1)) p) F) n) (sc p (inv (F (n-1)) p) F))):=by
 have hp0:0<p:=by have:=hp.1;omega
 have hNf:=refNormal_ok (p:=p) (n:=n0) (a:=a) hp0 hp.2.1 (by omega)
 have hnn:n≤n0:=by rw[← en0];exact tl_le _ _
 have hF:∀ i,0≤F i/\F i<p:=fun i=>by rw[← eF];exact nf_range hp0 i
 have hFz:∀ j,n≤j->F j=0:=fun j h=>by rw[← eF];exact nf_behind j (by rw[eF,en0];exact h)
 have ht:tl F n=n:=by rw[← en0];exact tl_tl _ _
 have hl:0<n->F (n-1)≠0:=fun h=>by
  have h2:0<tl F n:=by omega
  have:=tl_last h2
  rw[ht]at this
  exact this
 rw[eF,en0]at hNf
 have hs:=refScale_ok (p:=p) (k:=inv (F (n-1)) p) (n0:=n) (a:=F) hp.1 hp.2.1 (by omega) (nf_self hF hFz) ht
 refine fn_ok (E:=E0) E0_ok Tryz.func88 rfl mixed (by kernel_rfl) (by kernel_rfl) ?_
 conv=>whnf
 refine .inr ?_
 conv=>whnf
 refine⟨_,hNf,?_⟩
 conv=>whnf
 refine bcase (fun(h:decide ((n:Int)=0)=true)=>?_) fun(h:decide ((n:Int)=0)=false)=>?_
 ·have h:=of_decide_eq_true h
  obtain rfl:n=0:=by omega
  conv=>whnf
  exact⟨rfl,subRow rfl fun i hi=>absurd hi (Nat.not_lt_zero i)⟩
 ·have h:=of_decide_eq_false h
  have em:((n:Int)-1).toNat=n-1:=by omega
  have hinv:=refInverse_ok (c:=F (n-1)) hp (by
   rw[Int.emod_eq_of_lt (hF _).1 (hF _).2]
   have:=(hF (n-1)).1
   have:=hl (by omega)
   omega)
  conv=>whnf
  refine⟨i64 (by omega) (by omega),?_⟩
  conv=>whnf
  refine⟨by omega,?_⟩
  conv=>whnf
  refine⟨by omega,?_⟩
  conv=>whnf
  refine⟨_,(show FnOK Tryz.prog false 57 [.c (.int .i64 (F ((n:Int)-1).toNat)),.c (.int .i64 p)] (.t2 (.c (.int .i64 (inv (F (n-1)) p))) (.c (.int .i64 0)))by rw[em];exact hinv),?_⟩
  conv=>whnf
  refine⟨_,hs,?_⟩
  conv=>whnf
  exact⟨rfl,Sub.refl _⟩
end Fp
end Go.Proofs.YtibaocbpeaejkaaGreat
/- Greatest common divisors. -/
namespace Go.Proofs.YtibaocbpeaejkaaGreat
open Go.RowKit
namespace Fp
theorem dn_top {p b : Int} {m N : Nat} {F G : Nat → Int} (hm : 0 < m) (hb : (b * G (m - 1)) % p = 1) (hFz : ∀ j, N + m - 1 ≤ j → F j = 0) : ∀ {t : Nat}, t ≤ N → ∀ k, N - t + m - 1 ≤ k → dn p b m N F G t k = 0
 | 0,_,k,hk=>hFz k (by omega)
 | t+1,ht,k,hk=>by
  have ih:=fun k=>dn_top (p:=p) (b:=b) (F:=F) (G:=G) hm hb hFz (show t≤N by omega) k
  show dpart p ((dn p b m N F G t (N-1-t+m-1)*b)%p) G (dn p b m N F G t) (N-1-t) m k=0
  unfold dpart
  by_cases h:N-1-t≤k/\k<N-1-t+m
  ·rw[if_pos h]
   have e:k=N-1-t+m-1:=by omega
   rw[← e]
   generalize dn p b m N F G t k=r
   have e2:k-(N-1-t)=m-1:=by omega
   rw[e2]
   have e3:=Int.mul_ediv_add_emod (r*b) p
   have e4:=Int.mul_ediv_add_emod (b*G (m-1)) p
   rw[hb]at e4
   generalize (r*b)%p=c at e3 ⊢
   generalize r*b / p=x at e3
   generalize b*G (m-1) / p=y at e4
   have e5:r-c*G (m-1)=p*(x*G (m-1)-r*y):=by grind
   rw[e5]
   exact Int.mul_emod_right _ _
  ·rw[if_neg h]
   exact ih k (by omega)
noncomputable def rs (p:Int) (n m:Nat) (F G:Nat->Int):Nat->Int:=dn p (inv (G (m-1)) p) m (n+1-m) F G (n+1-m)
theorem rs_range {p:Int} {n m:Nat} {F G:Nat->Int} (hp:0<p) (hF:∀ i,0≤F i/\F i<p) (i:Nat):0≤rs p n m F G i/\rs p n m F G i<p:=dn_range hp hF _ _
theorem rs_behind {p:Int} {n m:Nat} {F G:Nat->Int} (hp:md p) (hm:0<m) (hG:∀ i,0≤G i/\G i<p) (hl:G (m-1)≠0) (hFz:∀ j,n≤j->F j=0) (j:Nat) (hj:min n (m-1)≤j):rs p n m F G j=0:=by
 unfold rs
 rcases Nat.lt_or_ge n m with h | h
 ·rw[show n+1-m=0 by omega]
  exact hFz j (by omega)
 ·refine dn_top hm (inv_spec hp ?_) (fun k hk=>hFz k (by omega)) (Nat.le_refl _) j (by omega)
  rw[Int.emod_eq_of_lt (hG _).1 (hG _).2]
  have:=(hG (m-1)).1
  omega
noncomputable def gc (p : Int) : Nat → Nat → (Nat → Int) → Nat → (Nat → Int) → Nat × (Nat → Int)
 | 0,n,F,_,_=>(n,F)
 | t+1,n,F,m,G=>if m=0 then(n,F)else gc p t m G (tl (rs p n m F G) n) (rs p n m F G)
theorem gc_zero {p : Int} {n : Nat} {F G : Nat → Int} : ∀ t, gc p t n F 0 G = (n, F)
 | 0=>rfl
 | _+1=>if_pos rfl
structure Nm (p : Int) (n : Nat) (F : Nat → Int) : Prop where
 n4:n≤4096
 r:∀ i,0≤F i/\F i<p
 z:∀ j,n≤j->F j=0
 t:tl F n=n
theorem Nm.l {p:Int} {n:Nat} {F:Nat->Int} (h:Nm p n F) (h0:0<n):F (n-1)≠0:=by
 have h2:0<tl F n:=by rw[h.t];exact h0
 have:=tl_last h2
 rw[h.t]at this
 exact this
theorem Nm.rest {p:Int} {n m:Nat} {F G:Nat->Int} (hp:md p) (h:Nm p n F) (g:Nm p m G) (hm:0<m):Nm p (tl (rs p n m F G) n) (rs p n m F G)/\tl (rs p n m F G) n<m:=by
 have hb:=rs_behind (n:=n) hp hm g.r (g.l hm) h.z
 have hle:tl (rs p n m F G) n≤min n (m-1):=by
  rw[tl_more hb (show min n (m-1)≤n by omega)]
  exact tl_le _ _
 have:=h.n4
 exact⟨⟨by omega,rs_range (by have:=hp.1;omega) h.r,tl_behind fun i hi=>hb i (by omega),tl_tl _ _⟩,by omega⟩
noncomputable def mo (p:Int) (x:Nat × (Nat->Int)):Nat->Int:=sc p (inv (x.2 (x.1-1)) p) x.2
set_option maxHeartbeats 4000000 in
theorem gcd_ok {p:Int} {n m:Nat} {F G:Nat->Int} (hp:md p) (hF:Nm p n F) (hG:Nm p m G):FnOK Tryz.prog false 103 [.c (.int .i64 p),.c (il n F),.c (il m G)] (.c (il (tl (mo p (gc p m n F m G)) (gc p m n F m G).1) (mo p (gc p m n F m G)))):=by
 refine fn_ok (E:=E0) E0_ok Tryz.func103 rfl mixed (by kernel_rfl) (by kernel_rfl) ?_
 conv=>whnf
 refine loop_ints (fun((_,n,F,m,G):Nat × Nat × (Nat->Int) × Nat × (Nat->Int))=>ist [(0,.c (.int .i64 p)),(1,.c (il n F)),(2,.c (il m G))] []) (fun(_,_,_,m,_)=>m) (fun(t,n',F',m',G')=>Nm p n' F'/\Nm p m' G'/\m'≤t/\gc p t n' F' m' G'=gc p m n F m G) (m,n,F,m,G) rfl ?_ ⟨hF,hG,Nat.le_refl _,rfl⟩ ?_
 ·exact Weak.ints [] rfl trivial ⟨⟨_,rfl,rfl⟩,⟨_,_,rfl,rfl,fun _ _ _ _=>rfl⟩,⟨_,_,rfl,rfl,fun _ _ _ _=>rfl⟩,trivial⟩
 rintro ⟨t,n',F',m',G'⟩ hI
 obtain⟨h1,h2,h3,h4⟩:Nm p n' F'/\Nm p m' G'/\m'≤t/\gc p t n' F' m' G'=gc p m n F m G:=hI
 conv=>whnf
 refine bcase (fun(h:decide ((0:Int)<m')=true)=>?_) fun(h:decide ((0:Int)<m')=false)=>?_
 ·have h:=of_decide_eq_true h
  obtain⟨h5,h6⟩:=h1.rest hp h2 (show 0<m' by omega)
  obtain⟨t,rfl⟩:∃ t',t=t'+1:=⟨t-1,by omega⟩
  conv=>whnf
  refine⟨_,divide_all hp h1.n4 (by omega) h1.r h2.r (h2.l (by omega)) h1.t,?_⟩
  conv=>whnf
  refine⟨(t,m',G',tl (rs p n' m' F' G') n',rs p n' m' F' G'),h6,Weak.ints [] rfl trivial ⟨⟨_,rfl,rfl⟩,⟨_,_,rfl,rfl,fun _ _ _ _=>rfl⟩,⟨_,_,rfl,rfl,fun _ _ _ _=>rfl⟩,trivial⟩,h2,h5,?_,?_⟩
  ·show tl (rs p n' m' F' G') n'≤t
   omega
  ·rw[← h4]
   show _=if m'=0 then(n',F')else _
   rw[if_neg (by omega)]
 ·have h:=of_decide_eq_false h
  obtain rfl:m'=0:=by omega
  rw[gc_zero]at h4
  rw[← h4]
  conv=>whnf
  refine⟨_,monic_ok hp h1.n4 h1.r h1.z h1.l,?_⟩
  conv=>whnf
  exact⟨rfl,Sub.refl _⟩
theorem Nm.nf {p:Int} {n:Nat} {a:Nat->Int} (hp:0<p) (hn:n≤4096):Nm p (tl (nf p n a) n) (nf p n a) :=
 ⟨by have:=tl_le (Fp.nf p n a) n;omega,nf_range hp,nf_behind,tl_tl _ _⟩
set_option maxHeartbeats 4000000 in
theorem refGcd_ok {p:Int} {n0 m0 n m:Nat} {a c F G:Nat->Int} (hp:md p) (hn0:n0≤4096) (hm0:m0≤4096) (eF:nf p n0 a=F) (eG:nf p m0 c=G) (en0:tl F n0=n) (em0:tl G m0=m):FnOK Tryz.prog false 40 [.c (.int .i64 p),.c (il n0 a),.c (il m0 c)] (.c (il (tl (mo p (gc p m n F m G)) (gc p m n F m G).1) (mo p (gc p m n F m G)))):=by
 have hp0:0<p:=by have:=hp.1;omega
 have hNf:=refNormal_ok (p:=p) (n:=n0) (a:=a) hp0 hp.2.1 (by omega)
 have hNg:=refNormal_ok (p:=p) (n:=m0) (a:=c) hp0 hp.2.1 (by omega)
 have hF:Nm p n F:=by subst eF;subst en0;exact Nm.nf hp0 hn0
 have hG:Nm p m G:=by subst eG;subst em0;exact Nm.nf hp0 hm0
 rw[eF,en0]at hNf
 rw[eG,em0]at hNg
 refine fn_ok (E:=E0) E0_ok Tryz.func40 rfl mixed (by kernel_rfl) (by kernel_rfl) ?_
 conv=>whnf
 refine .inr ?_
 conv=>whnf
 refine⟨_,hNf,?_⟩
 conv=>whnf
 refine .inr ?_
 conv=>whnf
 refine⟨_,hNg,?_⟩
 conv=>whnf
 refine loop_ints (fun((_,n,F,m,G):Nat × Nat × (Nat->Int) × Nat × (Nat->Int))=>ist [(0,.c (.int .i64 p)),(7,.c (il n F)),(8,.c (il m G))] []) (fun(_,_,_,m,_)=>m) (fun(t,n',F',m',G')=>Nm p n' F'/\Nm p m' G'/\m'≤t/\gc p t n' F' m' G'=gc p m n F m G) (m,n,F,m,G) rfl ?_ ⟨hF,hG,Nat.le_refl _,rfl⟩ ?_
 ·exact Weak.ints [] rfl trivial ⟨⟨_,rfl,rfl⟩,⟨_,_,rfl,rfl,fun _ _ _ _=>rfl⟩,⟨_,_,rfl,rfl,fun _ _ _ _=>rfl⟩,trivial⟩
 rintro ⟨t,n',F',m',G'⟩ hI
 obtain⟨h1,h2,h3,h4⟩:Nm p n' F'/\Nm p m' G'/\m'≤t/\gc p t n' F' m' G'=gc p m n F m G:=hI
 conv=>whnf
 refine bcase (fun(h:decide ((0:Int)<m')=true)=>?_) fun(h:decide ((0:Int)<m')=false)=>?_
 ·have h:=of_decide_eq_true h
  obtain⟨h5,h6⟩:=h1.rest hp h2 (show 0<m' by omega)
  obtain⟨t,rfl⟩:∃ t',t=t'+1:=⟨t-1,by omega⟩
  have hd:=refDivide_all (p:=p) (n0:=n') (m0:=m') (a:=F') (c:=G') hp h1.n4 h2.n4 (nf_self h1.r h1.z) (nf_self h2.r h2.z) h1.t h2.t (by omega) h1.r h2.r (h2.l (by omega)) h1.t
  have er:nf p n' (rs p n' m' F' G')=rs p n' m' F' G':=nf_self h5.r fun j hj=>h5.z j (by have:=tl_le (rs p n' m' F' G') n';omega)
  have er':nf p n' (dn p (inv (G' (m'-1)) p) m' (n'+1-m') F' G' (n'+1-m'))=rs p n' m' F' G':=er
  rw[er']at hd
  conv=>whnf
  refine⟨_,hd,?_⟩
  conv=>whnf
  refine⟨(t,m',G',tl (rs p n' m' F' G') n',rs p n' m' F' G'),h6,Weak.ints [] rfl trivial ⟨⟨_,rfl,rfl⟩,⟨_,_,rfl,rfl,fun _ _ _ _=>rfl⟩,⟨_,_,rfl,rfl,fun _ _ _ _=>rfl⟩,trivial⟩,h2,h5,?_,?_⟩
  ·show tl (rs p n' m' F' G') n'≤t
   omega
  ·rw[← h4]
   show _=if m'=0 then(n',F')else _
   rw[if_neg (by omega)]
 ·have h:=of_decide_eq_false h
  obtain rfl:m'=0:=by omega
  rw[gc_zero]at h4
  rw[← h4]
  conv=>whnf
  refine⟨_,refMonic_ok (n0:=n') (a:=F') hp h1.n4 (nf_self h1.r h1.z) h1.t,?_⟩
  conv=>whnf
  exact⟨rfl,Sub.refl _⟩
end Fp
end Go.Proofs.YtibaocbpeaejkaaGreat
/- Derivatives; the exported sums and differences. -/
namespace Go.Proofs.YtibaocbpeaejkaaGreat
open Go.RowKit
namespace Fp
def dv (p:Int) (F:Nat->Int) (i:Nat):Int:=(((i+1:Nat):Int)%p*F (i+1))%p
set_option maxHeartbeats 4000000 in
theorem derivative_ok {p:Int} {n:Nat} {F:Nat->Int} (hp:2≤p) (hp2:p≤65521) (hn:n≤4096) (hF:∀ i,0≤F i/\F i<p):FnOK Tryz.prog false 101 [.c (.int .i64 p),.c (il n F)] (.c (il (tl (dv p F) (n-1)) (dv p F))):=by
  refine fn_ok (E:=E0) E0_ok Tryz.func101 rfl mixed (by kernel_rfl) (by kernel_rfl) ?_
  conv=>whnf
  refine loop_ints (fun k:Nat=>ist [(0,.c (.int .i64 p)),(1,.c (il n F)),(5,.c (.gs 0 0)),(6,.c (.int .i64 ((k+1:Nat):Int)))] [(3,k,dv p F)]) (fun k=>n-k) (fun k=>k≤n-1) 0 rfl ?_ (Nat.zero_le _) fun k hk=>?_
  · exact Weak.ints [none] rfl ⟨rfl,trivial⟩ ⟨⟨_,rfl,rfl⟩,⟨_,_,rfl,rfl,fun _ _ _ _=>rfl⟩,rfl,⟨_,rfl,rfl⟩,trivial⟩
  have hr:0≤((k+1:Nat):Int)%p/\((k+1:Nat):Int)%p<p:=⟨Int.emod_nonneg _ (by omega),Int.emod_lt_of_pos _ (by omega)⟩
  have b1:=mul_bounds hp2 hr (hF (k+1))
  have e1:Int.tmod ((k+1:Nat):Int) p=((k+1:Nat):Int)%p:=rem_eq (by omega)
  have e2:Int.tmod (Int.tmod ((k+1:Nat):Int) p*F (k+1)) p=dv p F k:=by rw[e1,rem_eq b1.1];rfl
  conv=>whnf
  refine bcase (fun(h:decide (((k+1:Nat):Int)<n)=true)=>?_) fun(h:decide (((k+1:Nat):Int)<n)=false)=>?_
  · have h:=of_decide_eq_true h
    conv=>whnf
    refine⟨by omega,?_⟩
    conv=>whnf
    refine⟨by omega,?_⟩
    conv=>whnf
    refine⟨by omega,?_⟩
    conv=>whnf
    refine⟨by show inR .i64 (Int.tmod ((k+1:Nat):Int) p*F (k+1));rw[e1];exact i64 (by omega) (by omega),?_⟩
    conv=>whnf
    refine⟨by omega,?_⟩
    conv=>whnf
    refine .inr ?_
    conv=>whnf
    refine⟨rfl,?_⟩
    conv=>whnf
    refine⟨by show k+1≤16777216;omega,fun x y hx hy=>?_,?_⟩
    · obtain rfl : x = 0 := by have h : x < 1 := hx
                               omega
      obtain rfl : y = 0 := by have h : y < 1 := hy
                               omega
      exact⟨rfl,fun h=>by cases h⟩
    conv=>whnf
    refine⟨i64 (by omega) (by omega),?_⟩
    conv=>whnf
    refine⟨k+1,by omega,?_,by omega⟩
    refine Weak.ints [some 0] rfl ⟨⟨_,rfl,rfl,rfl,rfl,rfl,fun j hj=>appI ?_ (show k+1≤k+1 from Nat.le_refl _) hj⟩,trivial⟩ ⟨⟨_,rfl,rfl⟩,⟨_,_,rfl,rfl,fun _ _ _ _=>rfl⟩,⟨_,rfl,rfl,rfl⟩,⟨_,rfl,rfl⟩,trivial⟩
    show(if j=k then Int.tmod (Int.tmod ((k+1:Nat):Int) p*F (k+1)) p else dv p F j)=dv p F j
    by_cases e:j=k
    · subst e;rw[if_pos rfl,e2]
    · rw[if_neg e]
  · have h:=of_decide_eq_false h
    obtain rfl:k=n-1:=by omega
    conv=>whnf
    refine⟨fun _ _ _ _=>rfl,?_⟩
    conv=>whnf
    refine⟨_,trimmed_ok (n:=n-1) (a:=dv p F) (by omega),?_⟩
    conv=>whnf
    exact⟨rfl,Sub.refl _⟩
end Fp
end Go.Proofs.YtibaocbpeaejkaaGreat
/- Values of the reference; the exported sums, differences, derivatives. -/
namespace Go.Proofs.YtibaocbpeaejkaaGreat
open Go.RowKit
namespace Fp
def hv (p y : Int) (F : Nat → Int) (n : Nat) : Nat → Int
  | 0=>0
  | t+1=>(hv p y F n t*y+F (n-1-t))%p
end Fp
end Go.Proofs.YtibaocbpeaejkaaGreat
/- The equation of a division modulo a prime. -/
namespace Go.Proofs.YtibaocbpeaejkaaGreat
namespace Fp
theorem div_eq {p b : Int} {m N : Nat} {F G : Nat → Int} (hGz : ∀ j, m ≤ j → G j = 0) : ∀ {t : Nat}, t ≤ N → ∀ k, ∃ z, F k = dn p b m N F G t k + (cv (dq p b m N F G) G N k - cv (dq p b m N F G) G (N - t) k) + p * z
 | 0,_,k=>⟨0,by show F k=F k+_+_;rw[Nat.sub_zero,Int.sub_self,Int.mul_zero,Int.add_zero,Int.add_zero]⟩
 | t+1,ht,k=>by
  obtain⟨z,hz⟩:=div_eq (p:=p) (b:=b) (F:=F) hGz (show t≤N by omega) k
  have hs:=congrFun (dn_step (p:=p) (b:=b) (m:=m) (N:=N) (F:=F) (G:=G) (i:=N-(t+1)) (by omega)) k
  rw[show N-(N-(t+1))=t+1 by omega,show N-(N-(t+1)+1)=t by omega]at hs
  have hc:cv (dq p b m N F G) G (N-t) k=cv (dq p b m N F G) G (N-(t+1)) k+if N-(t+1)≤k then dq p b m N F G (N-(t+1))*G (k-(N-(t+1)))else 0:=by
   rw[show N-t=N-(t+1)+1 by omega]
   rfl
  rw[hc]at hz
  generalize cv (dq p b m N F G) G N k=A at *
  generalize cv (dq p b m N F G) G (N-(t+1)) k=B at *
  generalize dq p b m N F G (N-(t+1))=c at *
  generalize N-(t+1)=i at *
  unfold dpart at hs
  by_cases h1:i≤k
  ·rw[if_pos h1]at hz
   by_cases h2:k<i+m
   ·rw[if_pos ⟨h1,h2⟩]at hs
    have e:=Int.mul_ediv_add_emod (dn p b m N F G t k-c*G (k-i)) p
    rw[← hs]at e
    generalize (dn p b m N F G t k-c*G (k-i)) / p=y at e
    exact⟨z+y,by grind⟩
   ·rw[if_neg (by omega)]at hs
    rw[hGz (k-i) (by omega),Int.mul_zero]at hz
    exact⟨z,by rw[hs];omega⟩
  ·rw[if_neg h1]at hz
   rw[if_neg (by omega)]at hs
   exact⟨z,by rw[hs];omega⟩
theorem div_all {p b:Int} {m N:Nat} {F G:Nat->Int} (hF:∀ i,0≤F i/\F i<p) (hGz:∀ j,m≤j->G j=0) (k:Nat):(cv (dq p b m N F G) G N k+dn p b m N F G N k)%p=F k:=by
 obtain⟨z,hz⟩:=div_eq (p:=p) (b:=b) (F:=F) hGz (Nat.le_refl N) k
 rw[Nat.sub_self]at hz
 have e:cv (dq p b m N F G) G N k+dn p b m N F G N k=F k+p * -z:=by
  have:cv (dq p b m N F G) G 0 k=0:=rfl
  rw[this]at hz
  have e2:p * -z = -(p*z):=Int.mul_neg _ _
  omega
 rw[e,Int.add_mul_emod_self_left]
 exact Int.emod_eq_of_lt (hF k).1 (hF k).2
end Fp
end Go.Proofs.YtibaocbpeaejkaaGreat
/- Sums of products: whole, in either order, of sums. -/
namespace Go.Proofs.YtibaocbpeaejkaaGreat
namespace Fp
def su (f : Nat → Int) : Nat → Int
 | 0=>0
 | n+1=>su f n+f n
theorem su_congr {f g : Nat → Int} : ∀ {n : Nat}, (∀ i, i < n → f i = g i) → su f n = su g n
 | 0,_=>rfl
 | n+1,h=>by
  unfold su
  rw[su_congr fun i hi=>h i (by omega),h n (by omega)]
theorem su_add {f g : Nat → Int} : ∀ {n : Nat}, su (fun i => f i + g i) n = su f n + su g n
 | 0=>rfl
 | n+1=>by
  unfold su
  rw[su_add]
  omega
theorem su_mul {c : Int} {f : Nat → Int} : ∀ {n : Nat}, su (fun i => c * f i) n = c * su f n
 | 0=>(Int.mul_zero c).symm
 | n+1=>by
  unfold su
  rw[su_mul,Int.mul_add]
theorem su_zero {f : Nat → Int} : ∀ {n : Nat}, (∀ i, i < n → f i = 0) → su f n = 0
 | 0,_=>rfl
 | n+1,h=>by
  unfold su
  rw[su_zero fun i hi=>h i (by omega),h n (by omega)]
  rfl
theorem su_head {f : Nat → Int} : ∀ {n : Nat}, su f (n + 1) = f 0 + su (fun i => f (i + 1)) n
 | 0=>by show 0+f 0=f 0+0;omega
 | n+1=>by
  show su f (n+1)+f (n+1)=f 0+(su (fun i=>f (i+1)) n+f (n+1))
  rw[su_head]
  omega
theorem su_rev : ∀ {n : Nat} {f : Nat → Int}, su f n = su (fun i => f (n - 1 - i)) n
 | 0,_=>rfl
 | n+1,f=>by
  rw[su_head,su_rev (n:=n)]
  show f 0+su (fun i=>f (n-1-i+1)) n=su (fun i=>f (n+1-1-i)) n+f (n+1-1-n)
  rw[show n+1-1-n=0 by omega,su_congr (g:=fun i=>f (n+1-1-i)) fun i hi=>by
   show f (n-1-i+1)=f (n+1-1-i)
   rw[show n-1-i+1=n+1-1-i by omega]]
  omega
theorem su_more {f : Nat → Int} {n : Nat} (h : ∀ i, n ≤ i → f i = 0) : ∀ {m : Nat}, n ≤ m → su f m = su f n
 | 0,hm=>by rw[show n=0 by omega]
 | m+1,hm=>by
  rcases Nat.lt_or_ge m n with h1 | h1
  ·rw[show n=m+1 by omega]
  ·rw[← su_more h h1]
   show su f m+f m=su f m
   rw[h m h1,Int.add_zero]
theorem cv_su {F G : Nat → Int} {n : Nat} : ∀ {i : Nat}, cv F G i n = su (fun i => if i ≤ n then F i * G (n - i) else 0) i
 | 0=>rfl
 | i+1=>by
  show cv F G i n+_=_+_
  rw[cv_su]
def cf (F G:Nat->Int) (k:Nat):Int:=su (fun i=>F i*G (k-i)) (k+1)
theorem cv_cf {F G:Nat->Int} {n k:Nat} (hF:∀ j,n≤j->F j=0):cv F G n k=cf F G k:=by
 rw[cv_su]
 have e:cf F G k=su (fun i=>if i≤k then F i*G (k-i)else 0) (k+1):=su_congr fun i hi=>(if_pos (by omega)).symm
 rw[e]
 rcases Nat.lt_or_ge n (k+1)with h | h
 ·refine(su_more (fun i hi=>?_) (by omega)).symm
  show(if i≤k then F i*G (k-i)else 0)=0
  rw[hF i hi,Int.zero_mul]
  simp
 ·refine su_more (fun i hi=>?_) h
  exact if_neg (by omega)
theorem cf_comm (F G:Nat->Int) (k:Nat):cf F G k=cf G F k:=by
 unfold cf
 rw[su_rev]
 refine su_congr fun i hi=>?_
 rw[show k+1-1-i=k-i by omega,show k-(k-i)=i by omega,Int.mul_comm]
theorem cf_add (F G H:Nat->Int) (k:Nat):cf F (fun i=>G i+H i) k=cf F G k+cf F H k:=by
 unfold cf
 rw[← su_add]
 exact su_congr fun i _=>Int.mul_add _ _ _
theorem su_mod {p : Int} {f g : Nat → Int} : ∀ {n : Nat}, (∀ i, i < n → f i % p = g i % p) → su f n % p = su g n % p
 | 0,_=>rfl
 | n+1,h=>by
  unfold su
  rw[Int.add_emod,su_mod fun i hi=>h i (by omega),h n (by omega),← Int.add_emod]
theorem cf_mod {p:Int} {F F' G G':Nat->Int} (hF:∀ i,F i%p=F' i%p) (hG:∀ i,G i%p=G' i%p) (k:Nat):cf F G k%p=cf F' G' k%p :=
 su_mod fun i _=>by rw[Int.mul_emod,hF,hG,← Int.mul_emod]
theorem su_tri {f : Nat → Nat → Int} : ∀ {n : Nat}, su (fun i => su (fun j => f j (i - j)) (i + 1)) n = su (fun j => su (fun l => f j l) (n - j)) n
 | 0=>rfl
 | n+1=>by
  show su (fun i=>su (fun j=>f j (i-j)) (i+1)) n+su (fun j=>f j (n-j)) (n+1)=su (fun j=>su (fun l=>f j l) (n+1-j)) n+su (fun l=>f n l) (n+1-n)
  rw[su_tri,show n+1-n=0+1 by omega]
  have e:su (fun j=>su (fun l=>f j l) (n+1-j)) n=su (fun j=>su (fun l=>f j l) (n-j)+f j (n-j)) n:=su_congr fun j hj=>by
   show su (fun l=>f j l) (n+1-j)=_
   rw[show n+1-j=n-j+1 by omega]
   rfl
  rw[e,su_add]
  show _+(su (fun j=>f j (n-j)) n+f n (n-n))=_+(0+f n 0)
  rw[Nat.sub_self]
  omega
theorem cf_assoc (F G H:Nat->Int) (k:Nat):cf (fun i=>cf F G i) H k=cf F (fun i=>cf G H i) k:=by
 have e1:cf (fun i=>cf F G i) H k=su (fun i=>su (fun j=>F j*G (i-j)*H (k-(i-j)-j)) (i+1)) (k+1):=su_congr fun i hi=>by
  show su (fun j=>F j*G (i-j)) (i+1)*H (k-i)=_
  rw[Int.mul_comm,← su_mul]
  refine su_congr fun j hj=>?_
  show H (k-i)*(F j*G (i-j))=F j*G (i-j)*H (k-(i-j)-j)
  rw[show k-(i-j)-j=k-i by omega,Int.mul_comm]
 have e2:cf F (fun i=>cf G H i) k=su (fun j=>su (fun l=>F j*G l*H (k-l-j)) (k+1-j)) (k+1):=su_congr fun j hj=>by
  show F j*su (fun l=>G l*H (k-j-l)) (k-j+1)=_
  rw[← su_mul,show k-j+1=k+1-j by omega]
  refine su_congr fun l hl=>?_
  show F j*(G l*H (k-j-l))=F j*G l*H (k-l-j)
  rw[show k-j-l=k-l-j by omega,Int.mul_assoc]
 rw[e1,e2]
 exact su_tri (f:=fun j l=>F j*G l*H (k-l-j))
end Fp
end Go.Proofs.YtibaocbpeaejkaaGreat
/- Normal forms of products, sums, multiples, quotients. -/
namespace Go.Proofs.YtibaocbpeaejkaaGreat
namespace Fp
theorem Nm.mul {p:Int} {n m:Nat} {F G:Nat->Int} (hp:0<p) (hG:Nm p m G) (hs:n+m≤4096):Nm p (tl (pr p F G n) (n+m-1)) (pr p F G n) :=
 ⟨by have:=tl_le (pr p F G n) (n+m-1);omega,fun _=>⟨Int.emod_nonneg _ (by omega),Int.emod_lt_of_pos _ hp⟩,tl_behind fun i hi=>by
  unfold pr
  rw[cv_top hG.z (by omega),Int.zero_emod],tl_tl _ _⟩
theorem Nm.add {p b:Int} {n m:Nat} {F G:Nat->Int} (hp:0<p) (hF:Nm p n F) (hG:Nm p m G):Nm p (tl (sm p b F G) (max n m)) (sm p b F G) :=
 ⟨by have:=tl_le (sm p b F G) (max n m);have:=hF.n4;have:=hG.n4;omega,fun _=>⟨Int.emod_nonneg _ (by omega),Int.emod_lt_of_pos _ hp⟩,tl_behind (sm_behind hF.z hG.z),tl_tl _ _⟩
theorem Nm.sc {p k:Int} {n:Nat} {F:Nat->Int} (hp:0<p) (hF:Nm p n F):Nm p (tl (Fp.sc p k F) n) (Fp.sc p k F) :=
 ⟨by have:=tl_le (Fp.sc p k F) n;have:=hF.n4;omega,sc_range hp,tl_behind (sc_behind hF.z),tl_tl _ _⟩
noncomputable def qt (p:Int) (n m:Nat) (F G:Nat->Int) (i:Nat):Int:=if i<n+1-m then dq p (inv (G (m-1)) p) m (n+1-m) F G i else 0
theorem Nm.quo {p:Int} {n m:Nat} {F G:Nat->Int} (hp:md p) (hF:Nm p n F) (hG:Nm p m G) (hm:0<m):Nm p (n+1-m) (qt p n m F G):=by
 have hp0:0<p:=by have:=hp.1;omega
 have:=hF.n4
 refine⟨by omega,fun i=>?_,fun j hj=>?_,?_⟩
 ·unfold qt
  split
  ·exact dq_range hp0 i
  ·omega
 ·unfold qt;rw[if_neg (by omega)]
 ·refine tl_full fun h=>?_
  unfold qt
  rw[if_pos (by omega),show n+1-m-1=n-m by omega]
  refine dq_lead hm (by omega) hF.r (hF.l (by omega)) (inv_spec hp ?_)
  rw[Int.emod_eq_of_lt (hG.r _).1 (hG.r _).2]
  have:=(hG.r (m-1)).1
  have:=hG.l hm
  omega
theorem Nm.div {p:Int} {n m:Nat} {F G:Nat->Int} (hp:md p) (hF:Nm p n F) (hG:Nm p m G) (hm:0<m) (k:Nat):(cf (qt p n m F G) G k+rs p n m F G k)%p=F k:=by
 have h:=div_all (p:=p) (b:=inv (G (m-1)) p) (m:=m) (N:=n+1-m) (F:=F) (G:=G) hF.r hG.z k
 rw[← cv_cf (hF.quo hp hG hm).z]
 have e:∀(i:Nat),i≤n+1-m->cv (qt p n m F G) G i k=cv (dq p (inv (G (m-1)) p) m (n+1-m) F G) G i k:=by
  intro i
  induction i with
  | zero=>exact fun _=>rfl
  | succ i ih =>
   intro hi
   show cv _ G i k+_=cv _ G i k+_
   rw[ih (by omega)]
   rw[show qt p n m F G i=dq p (inv (G (m-1)) p) m (n+1-m) F G i by unfold qt;rw[if_pos (by omega)]]
 rw[e _ (Nat.le_refl _)]
 exact h
end Fp
end Go.Proofs.YtibaocbpeaejkaaGreat
/- A block of one's own that becomes a closed list. -/
namespace Go.Proofs.YtibaocbpeaejkaaGreat
open Go.RowKit
namespace Fp
theorem qt_eq {p:Int} {n m:Nat} {F G:Nat->Int} {i:Nat} (h:i<n+1-m):dq p (inv (G (m-1)) p) m (n+1-m) F G i=qt p n m F G i:=(if_pos h).symm
theorem divide_nm {p:Int} {n m:Nat} {F G:Nat->Int} (hp:md p) (hF:Nm p n F) (hG:Nm p m G) (hm:0<m):FnOK Tryz.prog false 104 [.c (.int .i64 p),.c (il n F),.c (il m G)] (.t2 (.c (il (n+1-m) (qt p n m F G))) (.c (il (tl (rs p n m F G) n) (rs p n m F G)))) :=
 sub_ok (divide_all hp hF.n4 hm hF.r hG.r (hG.l hm) hF.t) (subT2 (subRow rfl fun _ h=>qt_eq h) (Sub.refl _))
end Fp
end Go.Proofs.YtibaocbpeaejkaaGreat
/- Operations on lists in normal form, on both sides the same. -/
namespace Go.Proofs.YtibaocbpeaejkaaGreat
open Go.RowKit
namespace Fp
abbrev L:=Nat × (Nat->Int)
abbrev cl (x:L):V := .c (il x.1 x.2)
abbrev NL (p:Int) (x:L):Prop:=Nm p x.1 x.2
noncomputable abbrev mulL (p:Int) (x y:L):L:=(tl (pr p x.2 y.2 x.1) (x.1+y.1-1),pr p x.2 y.2 x.1)
noncomputable abbrev subL (p:Int) (x y:L):L:=(tl (sm p (p-1) x.2 y.2) (max x.1 y.1),sm p (p-1) x.2 y.2)
noncomputable abbrev addL (p:Int) (x y:L):L:=(tl (sm p 1 x.2 y.2) (max x.1 y.1),sm p 1 x.2 y.2)
noncomputable abbrev scL (p k:Int) (x:L):L:=(tl (sc p k x.2) x.1,sc p k x.2)
noncomputable abbrev quoL (p:Int) (x y:L):L:=(x.1+1-y.1,qt p x.1 y.1 x.2 y.2)
noncomputable abbrev rstL (p:Int) (x y:L):L:=(tl (rs p x.1 y.1 x.2 y.2) x.1,rs p x.1 y.1 x.2 y.2)
theorem NL.mul {p:Int} {x y:L} (hp:md p) (hy:NL p y) (hs:x.1+y.1≤4096):NL p (mulL p x y):=Nm.mul (by have:=hp.1;omega) hy hs
theorem NL.sub {p:Int} {x y:L} (hp:md p) (hx:NL p x) (hy:NL p y):NL p (subL p x y):=Nm.add (by have:=hp.1;omega) hx hy
theorem NL.add {p:Int} {x y:L} (hp:md p) (hx:NL p x) (hy:NL p y):NL p (addL p x y):=Nm.add (by have:=hp.1;omega) hx hy
theorem NL.sc {p k:Int} {x:L} (hp:md p) (hx:NL p x):NL p (scL p k x):=Nm.sc (by have:=hp.1;omega) hx
theorem NL.quo {p:Int} {x y:L} (hp:md p) (hx:NL p x) (hy:NL p y) (h0:0<y.1):NL p (quoL p x y):=Nm.quo hp hx hy h0
theorem NL.rst {p:Int} {x y:L} (hp:md p) (hx:NL p x) (hy:NL p y) (h0:0<y.1):NL p (rstL p x y)/\(rstL p x y).1<y.1:=Nm.rest hp hx hy h0
theorem NL.self {p:Int} {x:L} (hx:NL p x):Fp.nf p x.1 x.2=x.2:=nf_self hx.r hx.z
-- the program's side
theorem times_L {p:Int} {x y:L} (hp:md p) (hx:NL p x) (hy:NL p y) (h1:x.1≤1024) (h2:y.1≤1024):FnOK Tryz.prog false 69 [.c (.int .i64 p),cl x,cl y] (cl (mulL p x y)):=times_ok hp.1 hp.2.1 h1 h2 hx.r hy.r hy.z
theorem subs_L {p:Int} {x y:L} (hp:md p) (hx:NL p x) (hy:NL p y):FnOK Tryz.prog false 132 [.c (.int .i64 p),cl x,cl y,.c (.int .i64 (p-1))] (cl (subL p x y)):=combine_ok hp.1 hp.2.1 (by have:=hp.1;omega) hx.n4 hy.n4 hx.r hy.r hx.z hy.z
theorem adds_L {p:Int} {x y:L} (hp:md p) (hx:NL p x) (hy:NL p y):FnOK Tryz.prog false 132 [.c (.int .i64 p),cl x,cl y,.c (.int .i64 1)] (cl (addL p x y)):=combine_ok hp.1 hp.2.1 (by have:=hp.1;omega) hx.n4 hy.n4 hx.r hy.r hx.z hy.z
theorem divide_L {p:Int} {x y:L} (hp:md p) (hx:NL p x) (hy:NL p y) (h0:0<y.1):FnOK Tryz.prog false 104 [.c (.int .i64 p),cl x,cl y] (.t2 (cl (quoL p x y)) (cl (rstL p x y))):=divide_nm hp hx hy h0
-- the document's side
theorem refMul_L {p:Int} {x y:L} (hp:md p) (hx:NL p x) (hy:NL p y) (h1:x.1≤1024) (h2:y.1≤1024):FnOK Tryz.prog false 87 [.c (.int .i64 p),cl x,cl y] (cl (mulL p x y)):=refMul_ok hp.1 hp.2.1 h1 h2 hx.self hy.self hx.t hy.t
theorem refSub_L {p:Int} {x y:L} (hp:md p) (hx:NL p x) (hy:NL p y):FnOK Tryz.prog false 41 [.c (.int .i64 p),cl x,cl y] (cl (subL p x y)):=refSub_ok hp.1 hp.2.1 hx.n4 hy.n4 hx.self hy.self hx.t hy.t
noncomputable def xg (p : Int) : Nat → L → L → L → L → L × L
 | 0,r,_,u,_=>(r,u)
 | t+1,r,s,u,v=>if s.1=0 then(r,u)else xg p t s (rstL p r s) v (subL p u (mulL p (quoL p r s) v))
structure XI (p : Int) (m0 : Nat) (r s u v : L) : Prop where
 hr:NL p r
 hs:NL p s
 hu:NL p u
 hv:NL p v
 hm:r.1≤512
 hb:u.1≤1/\v.1=0/\s.1≤m0∨u.1+r.1≤m0+1/\v.1+r.1≤m0+1/\s.1<r.1
end Fp
end Go.Proofs.YtibaocbpeaejkaaGreat
