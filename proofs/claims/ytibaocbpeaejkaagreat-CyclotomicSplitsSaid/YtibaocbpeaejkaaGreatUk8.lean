/- Polynomials over a field: the ring, degrees, division, common divisors, irreducible ones. Plain: no program. -/
import Derived.Test.YtibaocbpeaejkaaGreatUk7
namespace Go.Proofs.YtibaocbpeaejkaaGreat
open Crg
class Fld (K : Type) extends Crg K where
 inv:K->K
 mul_inv:∀ a:K,a≠0->a*inv a=1
 one_ne:(1:K)≠0
theorem Fld.domain {K:Type} [Fld K] {a b:K} (h:a*b=0):a=0∨b=0:=by
 by_cases e:a=0
 ·exact .inl e
 ·refine .inr ?_
  have:=congrArg (Fld.inv a*·) h
  simp only[mul_zero,← Crg.mul_assoc]at this
  rw[Crg.mul_comm (Fld.inv a),Fld.mul_inv a e,one_mul]at this
  exact this
structure Pol (K : Type) [Crg K] where
 f:Nat->K
 fin:∃ n,∀ j,n≤j->f j=0
namespace Pol
section
variable {K:Type} [Crg K]
theorem ext {a b:Pol K} (h:∀ i,a.f i=b.f i):a=b:=by
 cases a;cases b
 congr
 exact funext h
def cv (f g:Nat->K) (k:Nat):K:=sm (fun i=>f i*g (k-i)) (k+1)
theorem cv_comm (f g:Nat->K) (k:Nat):cv f g k=cv g f k:=by
 unfold cv
 rw[sm_rev]
 refine sm_congr fun i hi=>?_
 show f (k-i)*g (k-(k-i))=g i*f (k-i)
 rw[show k-(k-i)=i by omega,Crg.mul_comm]
theorem cv_add (f g h:Nat->K) (k:Nat):cv f (fun i=>g i+h i) k=cv f g k+cv f h k:=by
 unfold cv
 rw[← sm_add]
 exact sm_congr fun i _=>mul_add _ _ _
theorem cv_assoc (f g h:Nat->K) (k:Nat):cv (cv f g) h k=cv f (cv g h) k:=by
 unfold cv
 have e1:sm (fun i=>sm (fun i_1=>f i_1*g (i-i_1)) (i+1)*h (k-i)) (k+1)=sm (fun i=>sm (fun j=>f j*g (i-j)*h (k-(j+(i-j)))) (i+1)) (k+1):=by
  refine sm_congr fun i _=>?_
  rw[sm_mul]
  refine sm_congr fun j hj=>?_
  rw[show j+(i-j)=i by omega]
 rw[e1,sm_tri (fun j l=>f j*g l*h (k-(j+l)))]
 refine sm_congr fun j hj=>?_
 rw[mul_sm,show k+1-j=k-j+1 by omega]
 refine sm_congr fun l hl=>?_
 rw[Crg.mul_assoc,show k-(j+l)=k-j-l by omega]
theorem cv_fin {f g:Nat->K} {n m:Nat} (hf:∀ j,n≤j->f j=0) (hg:∀ j,m≤j->g j=0) (k:Nat) (hk:n+m-1≤k):cv f g k=0:=by
 refine sm_zero fun i hi=>?_
 rcases Nat.lt_or_ge i n with h | h
 ·rw[hg (k-i) (by omega),mul_zero]
 ·rw[hf i h,zero_mul]
instance : Crg (Pol K) where
 zero:=⟨fun _=>0,0,fun _ _=>rfl⟩
 one:=⟨fun i=>if i=0 then 1 else 0,1,fun j hj=>if_neg (by omega)⟩
 add a b:=⟨fun i=>a.f i+b.f i,by
  obtain⟨n,hn⟩:=a.fin
  obtain⟨m,hm⟩:=b.fin
  exact⟨max n m,fun j hj=>by rw[hn j (by omega),hm j (by omega),Crg.add_zero]⟩⟩
 mul a b:=⟨cv a.f b.f,by
  obtain⟨n,hn⟩:=a.fin
  obtain⟨m,hm⟩:=b.fin
  exact⟨n+m,fun j hj=>cv_fin hn hm j (by omega)⟩⟩
 neg a:=⟨fun i => -a.f i,by
  obtain⟨n,hn⟩:=a.fin
  exact⟨n,fun j hj=>by rw[hn j hj,neg_zero]⟩⟩
 sub a b:=⟨fun i=>a.f i-b.f i,by
  obtain⟨n,hn⟩:=a.fin
  obtain⟨m,hm⟩:=b.fin
  exact⟨max n m,fun j hj=>by rw[hn j (by omega),hm j (by omega),sub_self]⟩⟩
 add_assoc a b c:=ext fun i=>Crg.add_assoc _ _ _
 add_comm a b:=ext fun i=>Crg.add_comm _ _
 add_zero a:=ext fun i=>Crg.add_zero _
 add_neg a:=ext fun i=>Crg.add_neg _
 sub_def a b:=ext fun i=>Crg.sub_def _ _
 mul_assoc a b c:=ext fun i=>cv_assoc _ _ _ _
 mul_comm a b:=ext fun i=>cv_comm _ _ _
 mul_one a:=ext fun i=>by
  show cv a.f (fun i=>if i=0 then 1 else 0) i=a.f i
  unfold cv
  rw[sm_one (k:=i) (by omega) fun j hj hne=>by dsimp only;rw[if_neg (by omega),mul_zero]]
  dsimp only
  rw[if_pos (Nat.sub_self i),Crg.mul_one]
 mul_add a b c:=ext fun i=>cv_add _ _ _ _
theorem f_add (a b:Pol K) (i:Nat):(a+b).f i=a.f i+b.f i:=rfl
theorem f_sub (a b:Pol K) (i:Nat):(a-b).f i=a.f i-b.f i:=rfl
theorem f_zero (i:Nat):(0:Pol K).f i=0:=rfl
def mn (c:K) (k:Nat):Pol K:=⟨fun i=>if i=k then c else 0,k+1,fun j hj=>if_neg (by omega)⟩
abbrev C (c:K):Pol K:=mn c 0
theorem mn_mul (c:K) (k:Nat) (a:Pol K) (i:Nat):(mn c k*a).f i=if k≤i then c*a.f (i-k)else 0:=by
 show cv (fun i=>if i=k then c else 0) a.f i=_
 unfold cv
 split
 ·rw[sm_one (k:=k) (by omega) fun j hj hne=>by dsimp only;rw[if_neg hne,zero_mul]]
  dsimp only
  rw[if_pos rfl]
 ·exact sm_zero fun j hj=>by dsimp only;rw[if_neg (by omega),zero_mul]
theorem C_mul (c:K) (a:Pol K) (i:Nat):(C c*a).f i=c*a.f i:=by rw[mn_mul,if_pos (Nat.zero_le _)];rfl
theorem mn_mn (c d:K) (k l:Nat):(mn c k*mn d l:Pol K)=mn (c*d) (k+l):=ext fun i=>by
 rw[mn_mul]
 show(if k≤i then c*(if i-k=l then d else 0)else 0)=if i=k+l then c*d else 0
 by_cases h:i=k+l
 ·rw[if_pos h,if_pos (by omega),if_pos (by omega)]
 ·rw[if_neg h]
  split
  ·rw[if_neg (by omega),mul_zero]
  ·rfl
theorem C_one:(C 1:Pol K)=1:=rfl
theorem C_add (c d:K):(C (c+d):Pol K)=C c+C d:=ext fun i=>by
 show(if i=0 then c+d else 0)=(if i=0 then c else 0)+if i=0 then d else 0
 split
 ·rfl
 ·rw[Crg.add_zero]
open Classical in
theorem ex_len (a:Pol K):∃ n,(∀ j,n≤j->a.f j=0)/\∀ k,n=k+1->a.f k≠0:=by
 obtain⟨n,hn⟩:=a.fin
 induction n with
 | zero=>exact⟨0,hn,fun k h=>by omega⟩
 | succ n ih =>
  by_cases h:a.f n=0
  ·exact ih fun j hj=>by
    by_cases e:j=n
    ·rw[e,h]
    ·exact hn j (by omega)
  ·exact⟨n+1,hn,fun k hk=>by rw[show k=n by omega];exact h⟩
noncomputable def len (a:Pol K):Nat:=(ex_len a).choose
theorem len_out (a:Pol K):∀ j,a.len≤j->a.f j=0:=(ex_len a).choose_spec.1
theorem len_top (a:Pol K) {k:Nat} (h:a.len=k+1):a.f k≠0:=(ex_len a).choose_spec.2 k h
theorem len_le {a:Pol K} {n:Nat} (h:∀ j,n≤j->a.f j=0):a.len≤n:=by
 rcases Nat.lt_or_ge n a.len with h1 | h1
 ·exact absurd (h (a.len-1) (by omega)) (len_top a (by omega))
 ·exact h1
theorem len_eq {a:Pol K} {k:Nat} (h:∀ j,k+1≤j->a.f j=0) (ht:a.f k≠0):a.len=k+1:=by
 have h1:=len_le h
 rcases Nat.lt_or_ge k a.len with h2 | h2
 ·omega
 ·exact absurd (len_out a k h2) ht
theorem len_zero:(0:Pol K).len=0:=Nat.le_zero.1 (len_le fun _ _=>rfl)
theorem len_nil {a:Pol K} (h:a.len=0):a=0:=ext fun i=>len_out a i (by omega)
theorem len_pos {a:Pol K} (h:a≠0):0<a.len:=Nat.pos_of_ne_zero fun e=>h (len_nil e)
theorem ne_of_len {a:Pol K} (h:0<a.len):a≠0:=fun e=>by rw[e,len_zero]at h;omega
theorem len_add (a b:Pol K):(a+b).len≤max a.len b.len:=len_le fun j hj=>by
 rw[f_add,len_out a j (by omega),len_out b j (by omega),Crg.add_zero]
theorem len_sub (a b:Pol K):(a-b).len≤max a.len b.len:=len_le fun j hj=>by
 rw[f_sub,len_out a j (by omega),len_out b j (by omega),sub_self]
theorem len_mul_le (a b:Pol K):(a*b).len≤a.len+b.len-1:=len_le fun j hj=>cv_fin (len_out a) (len_out b) j hj
theorem len_mn (c:K) (k:Nat):(mn c k:Pol K).len≤k+1:=len_le fun j hj=>if_neg (by omega)
theorem top_mul {a b:Pol K} {k l:Nat} (ha:a.len≤k+1) (hb:b.len≤l+1):(a*b).f (k+l)=a.f k*b.f l:=by
 show cv a.f b.f (k+l)=_
 unfold cv
 rw[sm_one (k:=k) (by omega) fun j hj hne=>?_]
 ·rw[show k+l-k=l by omega]
 ·rcases Nat.lt_or_ge j k with h | h
  ·rw[len_out b (k+l-j) (by omega),mul_zero]
  ·rw[len_out a j (by omega),zero_mul]
noncomputable def lead (a:Pol K):K:=a.f (a.len-1)
theorem lead_ne {a:Pol K} (h:a≠0):a.lead≠0:=len_top a (by have:=len_pos h;omega)
def Monic (a:Pol K):Prop:=0<a.len/\a.lead=1
def Dvs (a b:Pol K):Prop:=∃ c,b=a*c
theorem Dvs.refl (a:Pol K):Dvs a a:=⟨1,(Crg.mul_one a).symm⟩
theorem Dvs.trans {a b c:Pol K} (h:Dvs a b) (k:Dvs b c):Dvs a c:=by
 obtain⟨x,rfl⟩:=h
 obtain⟨y,rfl⟩:=k
 exact⟨x*y,Crg.mul_assoc _ _ _⟩
theorem Dvs.mul {a b:Pol K} (h:Dvs a b) (c:Pol K):Dvs a (b*c):=h.trans ⟨c,rfl⟩
theorem Dvs.mul' {a b:Pol K} (h:Dvs a b) (c:Pol K):Dvs a (c*b):=by rw[Crg.mul_comm];exact h.mul c
theorem Dvs.add {a b c:Pol K} (h:Dvs a b) (k:Dvs a c):Dvs a (b+c):=by
 obtain⟨x,rfl⟩:=h
 obtain⟨y,rfl⟩:=k
 exact⟨x+y,(mul_add _ _ _).symm⟩
theorem Dvs.sub {a b c:Pol K} (h:Dvs a b) (k:Dvs a c):Dvs a (b-c):=by
 obtain⟨x,rfl⟩:=h
 obtain⟨y,rfl⟩:=k
 exact⟨x-y,RE.eq [a,x,y] (t0*t1-t0*t2) (t0*(t1-t2)) rfl⟩
theorem Dvs.neg {a b:Pol K} (h:Dvs a b):Dvs a (-b):=by
 obtain⟨x,rfl⟩:=h
 exact⟨-x,(mul_neg _ _).symm⟩
theorem Dvs.zero (a:Pol K):Dvs a 0:=⟨0,(mul_zero a).symm⟩
theorem Dvs.one (a:Pol K):Dvs 1 a:=⟨a,(one_mul a).symm⟩
theorem Dvs.mul_mul {a b:Pol K} (h:Dvs a b) (c:Pol K):Dvs (a*c) (b*c):=by
 obtain⟨x,rfl⟩:=h
 exact⟨x,RE.eq [a,x,c] (t0*t1*t2) (t0*t2*t1) rfl⟩
theorem Dvs.of_add {a b c:Pol K} (h:Dvs a (b+c)) (k:Dvs a b):Dvs a c:=by
 have:=h.sub k
 rwa [show b+c-b=c from RE.eq [b,c] (t0+t1-t0) t1 rfl]at this
end
section
variable {K:Type} [Fld K]
theorem len_mul {a b:Pol K} (ha:a≠0) (hb:b≠0):(a*b).len+1=a.len+b.len:=by
 have h1:=len_pos ha
 have h2:=len_pos hb
 have e:=len_eq (a:=a*b) (k:=a.len-1+(b.len-1)) (fun j hj=>cv_fin (len_out a) (len_out b) j (by omega)) (by
  rw[top_mul (by omega) (by omega)]
  intro h
  rcases Fld.domain h with h | h
  ·exact lead_ne ha h
  ·exact lead_ne hb h)
 omega
theorem domain {a b:Pol K} (h:a*b=0):a=0∨b=0:=by
 by_cases ha:a=0
 ·exact .inl ha
 by_cases hb:b=0
 ·exact .inr hb
 have:=len_mul ha hb
 have:=len_pos ha
 have:=len_pos hb
 rw[h,len_zero]at *
 omega
theorem cancel {a b c:Pol K} (ha:a≠0) (h:a*b=a*c):b=c:=by
 have:a*(b-c)=0:=by
  rw[show a*(b-c)=a*b-a*c from RE.eq [a,b,c] (t0*(t1-t2)) (t0*t1-t0*t2) rfl,h,sub_self]
 exact sub_eq_zero.1 ((domain this).resolve_left ha)
theorem lead_mul {a b:Pol K} (ha:a≠0) (hb:b≠0):(a*b).lead=a.lead*b.lead:=by
 have h:=len_mul ha hb
 have h1:=len_pos ha
 have h2:=len_pos hb
 unfold lead
 rw[show(a*b).len-1=a.len-1+(b.len-1)by omega,top_mul (by omega) (by omega)]
theorem Dvs.len {a b:Pol K} (h:Dvs a b) (hb:b≠0):a.len≤b.len:=by
 obtain⟨c,rfl⟩:=h
 have ha:a≠0:=fun e=>hb (by rw[e,zero_mul])
 have hc:c≠0:=fun e=>hb (by rw[e,mul_zero])
 have:=len_mul ha hc
 have:=len_pos hc
 omega
theorem one_ne:(1:Pol K)≠0:=fun e=>Fld.one_ne (K:=K) (by
 have:=congrArg (fun a:Pol K=>a.f 0) e
 exact this)
theorem len_C {c:K} (h:c≠0):(C c:Pol K).len=1:=len_eq (fun j hj=>if_neg (by omega)) (by show(if 0=0 then c else 0)≠0;rw[if_pos rfl];exact h)
theorem len_one:(1:Pol K).len=1:=len_C Fld.one_ne
theorem eq_C {a:Pol K} (h:a.len≤1):a=C (a.f 0):=ext fun i=>by
 show a.f i=if i=0 then a.f 0 else 0
 split
 ·rename_i e;rw[e]
 ·exact len_out a i (by omega)
theorem unit {a:Pol K} (h:a.len=1):∃ b,a*b=1/\b.len=1:=by
 have h0:a.f 0≠0:=len_top a h
 refine⟨C (Fld.inv (a.f 0)),?_,?_⟩
 ·rw[eq_C (a:=a) (by omega),mn_mn]
  show C ((if 0=0 then a.f 0 else 0)*Fld.inv (if 0=0 then a.f 0 else 0))=1
  rw[if_pos rfl,Fld.mul_inv _ h0]
  rfl
 ·refine len_C fun e=>?_
  have:=Fld.mul_inv _ h0
  rw[e,mul_zero]at this
  exact Fld.one_ne this.symm
theorem divide (b : Pol K) (hb : b ≠ 0) : ∀ (n : Nat) (a : Pol K), a.len ≤ n → ∃ q r, a = q * b + r ∧ r.len < b.len
 | 0,a,h=>⟨0,a,by rw[zero_mul,zero_add],by have:=len_pos hb;omega⟩
 | n+1,a,h=>by
  rcases Nat.lt_or_ge a.len b.len with h1 | h1
  ·exact⟨0,a,by rw[zero_mul,zero_add],h1⟩
  have h2:=len_pos hb
  have hl:=lead_ne hb
  let m:Pol K:=mn (a.lead*Fld.inv b.lead) (a.len-b.len)
  have hs:(a-m*b).len≤n:=len_le fun j hj=>by
   rw[f_sub,mn_mul]
   rcases Nat.lt_or_ge j a.len with h3 | h3
   ·have e:j=a.len-1:=by omega
    rw[if_pos (by omega),show j-(a.len-b.len)=b.len-1 by omega]
    show a.f j-a.lead*Fld.inv b.lead*b.lead=0
    rw[Crg.mul_assoc,Crg.mul_comm (Fld.inv b.lead),Fld.mul_inv _ hl,Crg.mul_one,e]
    exact sub_self _
   ·rw[len_out a j h3,if_pos (by omega),len_out b _ (by omega),mul_zero,sub_self]
  obtain⟨q,r,e,hr⟩:=divide b hb n (a-m*b) hs
  refine⟨m+q,r,?_,hr⟩
  have:a=m*b+(a-m*b):=RE.eq [a,m,b] t0 (t1*t2+(t0-t1*t2)) rfl
  rw[this,e]
  exact RE.eq [m,b,q,r] (t0*t1+(t2*t1+t3)) ((t0+t2)*t1+t3) rfl
theorem div_ex (a:Pol K) {b:Pol K} (hb:b≠0):∃ q r,a=q*b+r/\r.len<b.len:=divide b hb a.len a (Nat.le_refl _)
theorem bezout : ∀ (n : Nat) (a b : Pol K), b.len ≤ n → ∃ g u v, g = u * a + v * b ∧ Dvs g a ∧ Dvs g b
 | 0,a,b,h=>⟨a,1,0,by rw[one_mul,zero_mul,Crg.add_zero],Dvs.refl a,by rw[len_nil (a:=b) (by omega)];exact Dvs.zero a⟩
 | n+1,a,b,h=>by
  by_cases hb:b=0
  ·exact⟨a,1,0,by rw[one_mul,zero_mul,Crg.add_zero],Dvs.refl a,by rw[hb];exact Dvs.zero a⟩
  obtain⟨q,r,e,hr⟩:=div_ex a hb
  obtain⟨g,u,v,h1,h2,h3⟩:=bezout n b r (by omega)
  refine⟨g,v,u-v*q,?_,?_,h2⟩
  ·rw[h1,e]
   exact RE.eq [u,b,v,r,q] (t0*t1+t2*t3) (t2*(t4*t1+t3)+(t0-t2*t4)*t1) rfl
  ·rw[e]
   exact(h2.mul' q).add h3
def Cop (a b:Pol K):Prop:=∃ u v,u*a+v*b=1
theorem Cop.symm {a b:Pol K} (h:Cop a b):Cop b a:=by
 obtain⟨u,v,h⟩:=h
 exact⟨v,u,by rw[Crg.add_comm];exact h⟩
theorem Cop.dvs {a b c:Pol K} (h:Cop a b) (k:Dvs a (b*c)):Dvs a c:=by
 obtain⟨u,v,h⟩:=h
 have e:c=u*a*c+v*(b*c):=by
  rw[show u*a*c+v*(b*c)=(u*a+v*b)*c from RE.eq [u,a,c,v,b] (t0*t1*t2+t3*(t4*t2)) ((t0*t1+t3*t4)*t2) rfl,h,one_mul]
 rw[e]
 exact(((Dvs.refl a).mul' u).mul c).add (k.mul' v)
theorem Cop.mul {a b c:Pol K} (h:Cop a b) (k:Cop a c):Cop a (b*c):=by
 obtain⟨u,v,h⟩:=h
 obtain⟨s,t,k⟩:=k
 refine⟨u*s*a+u*t*c+v*b*s,v*t,?_⟩
 have:=congr (congrArg (·*·) h) k
 simp only[Crg.mul_one]at this
 rw[← this]
 exact RE.eq [u,s,a,t,c,v,b] ((t0*t1*t2+t0*t3*t4+t5*t6*t1)*t2+t5*t3*(t6*t4)) ((t0*t2+t5*t6)*(t1*t2+t3*t4)) rfl
theorem Cop.both {a b c:Pol K} (h:Cop a b) (h1:Dvs a c) (h2:Dvs b c):Dvs (a*b) c:=by
 obtain⟨x,rfl⟩:=h1
 obtain⟨y,rfl⟩:=h.symm.dvs h2
 exact⟨y,(Crg.mul_assoc _ _ _).symm⟩
structure Irr (P : Pol K) : Prop where
 two:2≤P.len
 irr:∀ a b,P=a*b->a.len=1∨b.len=1
theorem Irr.ne {P:Pol K} (h:Irr P):P≠0:=ne_of_len (by have:=h.two;omega)
theorem Irr.or {P:Pol K} (h:Irr P) (a:Pol K):Dvs P a∨Cop P a:=by
 obtain⟨g,u,v,h1,⟨x,h2⟩,h3⟩:=bezout P.len a P (Nat.le_refl _) |> fun⟨g,u,v,e,d1,d2⟩=>(⟨g,u,v,e,d2,d1⟩:∃ g u v,g=u*a+v*P/\Dvs g P/\Dvs g a)
 rcases h.irr g x h2 with h4 | h4
 ·obtain⟨w,hw,_⟩:=unit h4
  refine .inr ⟨w*v,w*u,?_⟩
  rw[← hw,h1]
  exact RE.eq [w,v,P,u,a] (t0*t1*t2+t0*t3*t4) ((t3*t4+t1*t2)*t0) rfl
 ·obtain⟨w,hw,_⟩:=unit h4
  refine .inl ?_
  have:Dvs P g:=⟨w,by rw[h2,Crg.mul_assoc,hw,Crg.mul_one]⟩
  exact this.trans h3
theorem Irr.prime {P:Pol K} (h:Irr P) {a b:Pol K} (k:Dvs P (a*b)):Dvs P a∨Dvs P b :=
 (h.or a).elim .inl fun c => .inr (c.dvs k)
open Classical in
theorem ex_irr : ∀ (n : Nat) (a : Pol K), a.len ≤ n → 2 ≤ a.len → ∃ P, Irr P ∧ Dvs P a
 | 0,a,h,h2=>by omega
 | n+1,a,h,h2=>by
  by_cases hi:Irr a
  ·exact⟨a,hi,Dvs.refl a⟩
  have:∃ x y,a=x*y/\¬(x.len=1∨y.len=1):=by
   refine Classical.byContradiction fun hn=>hi ⟨h2,fun x y e=>?_⟩
   exact Classical.byContradiction fun hm=>hn ⟨x,y,e,hm⟩
  obtain⟨x,y,rfl,hm⟩:=this
  have ha:x*y≠0:=ne_of_len (by omega)
  have hx:x≠0:=fun e=>ha (by rw[e,zero_mul])
  have hy:y≠0:=fun e=>ha (by rw[e,mul_zero])
  have:=len_mul hx hy
  have:=len_pos hx
  have:=len_pos hy
  obtain⟨P,h3,h4⟩:=ex_irr n x (by omega) (by omega)
  exact⟨P,h3,h4.mul y⟩
def Cgr (m a b:Pol K):Prop:=Dvs m (a-b)
theorem Cgr.refl (m a:Pol K):Cgr m a a:=by show Dvs m (a-a);rw[sub_self];exact Dvs.zero m
theorem Cgr.symm {m a b:Pol K} (h:Cgr m a b):Cgr m b a:=by
 have:=Dvs.neg h
 rwa [show -(a-b)=b-a from RE.eq [a,b] (-(t0-t1)) (t1-t0) rfl]at this
theorem Cgr.trans {m a b c:Pol K} (h:Cgr m a b) (k:Cgr m b c):Cgr m a c:=by
 have:=Dvs.add h k
 rwa [show a-b+(b-c)=a-c from RE.eq [a,b,c] (t0-t1+(t1-t2)) (t0-t2) rfl]at this
theorem Cgr.add {m a b c d:Pol K} (h:Cgr m a b) (k:Cgr m c d):Cgr m (a+c) (b+d):=by
 have:=Dvs.add h k
 rwa [show a-b+(c-d)=a+c-(b+d)from RE.eq [a,b,c,d] (t0-t1+(t2-t3)) (t0+t2-(t1+t3)) rfl]at this
theorem Cgr.sub {m a b c d:Pol K} (h:Cgr m a b) (k:Cgr m c d):Cgr m (a-c) (b-d):=by
 have:=Dvs.sub h k
 rwa [show a-b-(c-d)=a-c-(b-d)from RE.eq [a,b,c,d] (t0-t1-(t2-t3)) (t0-t2-(t1-t3)) rfl]at this
theorem Cgr.mul {m a b c d:Pol K} (h:Cgr m a b) (k:Cgr m c d):Cgr m (a*c) (b*d):=by
 have:=Dvs.add (Dvs.mul h c) (Dvs.mul' k b)
 rwa [show(a-b)*c+b*(c-d)=a*c-b*d from RE.eq [a,b,c,d] ((t0-t1)*t2+t1*(t2-t3)) (t0*t2-t1*t3) rfl]at this
theorem Cgr.pw {m a b : Pol K} (h : Cgr m a b) : ∀ n, Cgr m (Crg.pw a n) (Crg.pw b n)
 | 0=>Cgr.refl _ _
 | n+1=>(Cgr.pw h n).mul h
theorem Cgr.mono {m k a b:Pol K} (h:Cgr m a b) (hk:Dvs k m):Cgr k a b:=hk.trans h
theorem Cgr.zero {m a:Pol K}:Cgr m a 0↔Dvs m a:=by
 show Dvs m (a-0)↔_
 rw[sub_zero]
end
end Pol
end Go.Proofs.YtibaocbpeaejkaaGreat
/- The field of p elements; polynomials over it modulo an irreducible one: Fermat, Frobenius, the number of roots. Plain: no program. -/
namespace Go.Proofs.YtibaocbpeaejkaaGreat
open Crg
class Prm (p : Int) : Prop where
 two:2≤p
 inv:∀ a:Int,a%p≠0->∃ b:Int,(a*b)%p=1
structure Zp (p : Int) where
 v:Int
 r:0≤v/\v<p
namespace Zp
section
variable {p:Int} [hp:Prm p]
theorem pos:0<p:=by have:=hp.two;omega
def red (a:Int):Zp p:=⟨a%p,Int.emod_nonneg _ (by have:=pos (p:=p);omega),Int.emod_lt_of_pos _ pos⟩
theorem red_v (a:Zp p):red a.v=a:=by
 obtain⟨v,r⟩:=a
 simp only[red,Int.emod_eq_of_lt r.1 r.2]
theorem red_eq {a b:Int}:(red a:Zp p)=red b↔a%p=b%p:=by
 simp only[red,Zp.mk.injEq]
omit hp in
theorem ext {a b:Zp p} (h:a.v=b.v):a=b:=by cases a;cases b;simp_all
omit hp in
theorem em1 (a b:Int):(a%p*b)%p=(a*b)%p:=by rw[Int.mul_emod,Int.emod_emod_of_dvd _ (Int.dvd_refl p),← Int.mul_emod]
omit hp in
theorem em2 (a b:Int):(a*(b%p))%p=(a*b)%p:=by rw[Int.mul_comm,em1,Int.mul_comm]
theorem inv_ex (a:Zp p):∃ b:Zp p,a.v≠0->(a.v*b.v)%p=1:=by
 by_cases h:a.v=0
 ·exact⟨a,fun k=>absurd h k⟩
 ·obtain⟨b,hb⟩:=hp.inv a.v (by rw[Int.emod_eq_of_lt a.r.1 a.r.2];exact h)
  refine⟨red b,fun _=>?_⟩
  show(a.v*(b%p))%p=1
  rw[Int.mul_emod,Int.emod_emod_of_dvd _ (Int.dvd_refl p),← Int.mul_emod,hb]
noncomputable instance : Fld (Zp p) where
 zero:=red 0
 one:=red 1
 add a b:=red (a.v+b.v)
 mul a b:=red (a.v*b.v)
 neg a:=red (-a.v)
 sub a b:=red (a.v-b.v)
 inv a:=(inv_ex a).choose
 add_assoc a b c:=red_eq.2 (by show((a.v+b.v)%p+c.v)%p=(a.v+(b.v+c.v)%p)%p;rw[Int.emod_add_emod,Int.add_emod_emod,Int.add_assoc])
 add_comm a b:=red_eq.2 (by rw[Int.add_comm])
 add_zero a:=by
  show red (a.v+0%p)=a
  rw[Int.zero_emod,Int.add_zero,red_v]
 add_neg a:=red_eq.2 (by show(a.v + -a.v%p)%p=0%p;rw[Int.add_emod_emod,Int.add_right_neg])
 sub_def a b:=red_eq.2 (by show(a.v-b.v)%p=(a.v + -b.v%p)%p;rw[Int.add_emod_emod,Int.sub_eq_add_neg])
 mul_assoc a b c:=red_eq.2 (by show((a.v*b.v)%p*c.v)%p=(a.v*((b.v*c.v)%p))%p;rw[em1,em2,Int.mul_assoc])
 mul_comm a b:=red_eq.2 (by rw[Int.mul_comm])
 mul_one a:=by
  show red (a.v*(1%p))=a
  rw[Int.emod_eq_of_lt (by omega) (by have:=hp.two;omega),Int.mul_one,red_v]
 mul_add a b c:=red_eq.2 (by show(a.v*((b.v+c.v)%p))%p=((a.v*b.v)%p+(a.v*c.v)%p)%p;rw[em2,Int.emod_add_emod,Int.add_emod_emod,Int.mul_add])
 mul_inv a h:=by
  have h0:a.v≠0:=fun e=>h (ext (by show a.v=0%p;rw[e,Int.zero_emod]))
  have h1:=(inv_ex a).choose_spec h0
  refine red_eq.2 ?_
  rw[h1,Int.emod_eq_of_lt (by omega) (by have:=hp.two;omega)]
 one_ne h:=by
  have h:(1:Int)%p=0%p:=red_eq.1 h
  rw[Int.emod_eq_of_lt (by omega) (by have:=hp.two;omega),Int.zero_emod]at h
  omega
theorem red_add (a b:Int):(red (a+b):Zp p)=red a+red b:=red_eq.2 (by show(a+b)%p=(a%p+b%p)%p;rw[Int.emod_add_emod,Int.add_emod_emod])
theorem red_mul (a b:Int):(red (a*b):Zp p)=red a*red b:=red_eq.2 (by show(a*b)%p=(a%p*(b%p))%p;rw[em1,em2])
theorem red_one:(red 1:Zp p)=1:=rfl
theorem red_neg (a:Int):(red (-a):Zp p) = -red a:=Crg.neg_eq (by rw[← red_add,Int.add_right_neg];rfl)
theorem red_sub (a b:Int):(red (a-b):Zp p)=red a-red b:=by rw[Int.sub_eq_add_neg,red_add,red_neg,← Crg.sub_def]
theorem red_eq_zero {a:Int}:(red a:Zp p)=0↔a%p=0:=by
 have:(red a:Zp p)=red 0↔_:=red_eq
 rw[Int.zero_emod]at this
 exact this
theorem v_zero {a:Zp p}:a.v=0↔a=0 :=
 ⟨fun h=>ext (by show a.v=0%p;rw[h,Int.zero_emod]),fun h=>by rw[h];exact Int.zero_emod p⟩
end
end Zp
namespace Crg
section
variable {α:Type} [Crg α]
def nc : Nat → α
 | 0=>0
 | n+1=>nc n+1
theorem nc_add (m : Nat) : ∀ n, (nc (m + n) : α) = nc m + nc n
 | 0=>(add_zero _).symm
 | n+1=>by
  show nc (m+n)+1=nc m+(nc n+1)
  rw[nc_add m n,add_assoc]
theorem nc_mul (m : Nat) : ∀ n, (nc (m * n) : α) = nc m * nc n
 | 0=>(mul_zero _).symm
 | n+1=>by
  show nc (m*n+m)=nc m*(nc n+1)
  rw[nc_add,nc_mul m n,mul_add,mul_one]
theorem nc_one:(nc 1:α)=1:=zero_add 1
def bin : Nat → Nat → Nat
 | _,0=>1
 | 0,_+1=>0
 | n+1,k+1=>bin n k+bin n (k+1)
theorem bin_zero (n:Nat):bin n 0=1:=by cases n <;> rfl
theorem bin_big : ∀ {n k : Nat}, n < k → bin n k = 0
 | 0,0,h=>by omega
 | 0,_+1,_=>rfl
 | n+1,0,h=>by omega
 | n+1,k+1,h=>by
  show bin n k+bin n (k+1)=0
  rw[bin_big (n:=n) (k:=k) (by omega),bin_big (n:=n) (k:=k+1) (by omega)]
theorem bin_self : ∀ n, bin n n = 1
 | 0=>rfl
 | n+1=>by
  show bin n n+bin n (n+1)=1
  rw[bin_self n,bin_big (by omega)]
theorem bin_mul : ∀ n k, (n + 1) * bin n k = bin (n + 1) (k + 1) * (k + 1)
 | 0,0=>rfl
 | 0,k+1=>by
  show 1*0=(0+0)*(k+1+1)
  rw[Nat.zero_mul]
 | n+1,0=>by
  have h:(n+1)*bin n 0=bin (n+1) 1*1:=bin_mul n 0
  rw[bin_zero]at h ⊢
  show(n+1+1)*1=(bin (n+1) 0+bin (n+1) 1)*1
  rw[bin_zero]
  omega
 | n+1,k+1=>by
  have h1:=bin_mul n k
  have h2:=bin_mul n (k+1)
  show(n+1+1)*bin (n+1) (k+1)=(bin (n+1) (k+1)+bin (n+1) (k+2))*(k+1+1)
  have e:bin (n+1) (k+1)=bin n k+bin n (k+1):=rfl
  have e1:(n+1+1)*bin (n+1) (k+1)=(n+1)*bin n k+(n+1)*bin n (k+1)+bin (n+1) (k+1):=by
   rw[Nat.add_mul,Nat.one_mul,← Nat.mul_add,← e]
  rw[e1,h1,h2,Nat.add_mul,Nat.mul_add (bin (n+1) (k+1)) (k+1) 1,Nat.mul_one]
  show _+bin (n+1) (k+2)*(k+1+1)+_=_
  omega
theorem pw_bin (a b : α) : ∀ n, pw (a + b) n = sm (fun k => nc (bin n k) * (pw a k * pw b (n - k))) (n + 1)
 | 0=>by
  show(1:α)=0+nc (bin 0 0)*(1*1)
  rw[bin_zero,nc_one,zero_add,mul_one,mul_one]
 | n+1=>by
  have ih:=pw_bin a b n
  have ha:sm (fun k=>nc (bin n k)*(pw a k*pw b (n-k))) (n+1)*a=sm (fun k=>nc (bin n k)*(pw a (k+1)*pw b (n-k))) (n+1):=by
   rw[sm_mul]
   refine sm_congr fun k _=>?_
   exact RE.eq [nc (bin n k),pw a k,pw b (n-k),a] (t0*(t1*t2)*t3) (t0*(t1*t3*t2)) rfl
  have hb:sm (fun k=>nc (bin n k)*(pw a k*pw b (n-k))) (n+1)*b=pw b (n+1)+sm (fun k=>nc (bin n (k+1))*(pw a (k+1)*pw b (n-k))) (n+1):=by
   rw[sm_mul,sm_head]
   have e1:sm (fun k=>nc (bin n (k+1))*(pw a (k+1)*pw b (n-k))) (n+1)=sm (fun k=>nc (bin n (k+1))*(pw a (k+1)*pw b (n-k))) n:=by
    show _+nc (bin n (n+1))*_=_
    rw[bin_big (by omega)]
    show _+0*_=_
    rw[zero_mul,add_zero]
   rw[e1]
   congr 1
   ·show nc (bin n 0)*(1*pw b (n-0))*b=pw b n*b
    rw[bin_zero,nc_one,one_mul,one_mul,Nat.sub_zero]
   ·refine sm_congr fun k hk=>?_
    show nc (bin n (k+1))*(pw a (k+1)*pw b (n-(k+1)))*b=_
    rw[show n-k=n-(k+1)+1 by omega]
    exact RE.eq [nc (bin n (k+1)),pw a (k+1),pw b (n-(k+1)),b] (t0*(t1*t2)*t3) (t0*(t1*(t2*t3))) rfl
  show pw (a+b) n*(a+b)=_
  rw[ih,mul_add,ha,hb,sm_head (fun k=>nc (bin (n+1) k)*(pw a k*pw b (n+1-k)))]
  have e2:sm (fun k=>nc (bin (n+1) (k+1))*(pw a (k+1)*pw b (n+1-(k+1)))) (n+1)=sm (fun k=>nc (bin n k)*(pw a (k+1)*pw b (n-k))) (n+1)+sm (fun k=>nc (bin n (k+1))*(pw a (k+1)*pw b (n-k))) (n+1):=by
   rw[← sm_add]
   refine sm_congr fun k _=>?_
   show nc (bin n k+bin n (k+1))*_=_
   rw[nc_add,add_mul,show n+1-(k+1)=n-k by omega]
  rw[e2]
  show _=nc (bin (n+1) 0)*(1*pw b (n+1-0))+_
  rw[bin_zero,nc_one,one_mul,one_mul,Nat.sub_zero,add_left_comm]
def pr (f : Nat → α) : Nat → α
 | 0=>1
 | n+1=>pr f n*f n
theorem pr_congr {f g : Nat → α} : ∀ {n : Nat}, (∀ i, i < n → f i = g i) → pr f n = pr g n
 | 0,_=>rfl
 | n+1,h=>by
  show pr f n*f n=pr g n*g n
  rw[pr_congr fun i hi=>h i (by omega),h n (by omega)]
theorem pr_mul (f g : Nat → α) : ∀ n, pr (fun i => f i * g i) n = pr f n * pr g n
 | 0=>(mul_one _).symm
 | n+1=>by
  show pr (fun i=>f i*g i) n*(f n*g n)=pr f n*f n*(pr g n*g n)
  rw[pr_mul f g n,mul_assoc,mul_assoc,mul_left_comm (pr g n)]
theorem pr_const (c : α) : ∀ n, pr (fun _ => c) n = pw c n
 | 0=>rfl
 | n+1=>by show pr (fun _=>c) n*c=pw c n*c;rw[pr_const c n]
def swp (k m i:Nat):Nat:=if i=k then m else if i=m then k else i
theorem pr_out (f : Nat → α) : ∀ {n k : Nat}, k < n → pr f n = pr (fun i => if i = k then 1 else f i) n * f k
 | n+1,k,h=>by
  show pr f n*f n=pr (fun i=>if i=k then 1 else f i) n*(if n=k then 1 else f n)*f k
  by_cases e:n=k
  ·subst e
   rw[if_pos rfl,mul_one]
   congr 1
   exact pr_congr fun i hi=>(if_neg (by omega)).symm
  ·rw[if_neg e,pr_out f (n:=n) (k:=k) (by omega),mul_assoc,mul_assoc,mul_comm (f k)]
theorem pr_swp (f:Nat->α) {n k m:Nat} (hk:k<n) (hm:m<n):pr (fun i=>f (swp k m i)) n=pr f n:=by
 by_cases e:k=m
 ·subst e
  refine pr_congr fun i _=>?_
  unfold swp
  split
  ·rename_i h;rw[h]
  ·rfl
 rw[pr_out f hk,pr_out (fun i=>if i=k then 1 else f i) hm,pr_out (fun i=>f (swp k m i)) hk,pr_out (fun i=>if i=k then 1 else f (swp k m i)) hm]
 rw[if_neg (fun h=>e h.symm),if_neg (fun h=>e h.symm)]
 have e1:swp k m k=m:=if_pos rfl
 have e2:swp k m m=k:=by
  unfold swp
  rw[if_neg (fun h=>e h.symm),if_pos rfl]
 rw[e1,e2,mul_assoc,mul_assoc,mul_comm (f k)]
 congr 1
 refine pr_congr fun i hi=>?_
 by_cases h1:i=m
 ·rw[if_pos h1,if_pos h1]
 ·rw[if_neg h1,if_neg h1]
  by_cases h2:i=k
  ·rw[if_pos h2,if_pos h2]
  ·rw[if_neg h2,if_neg h2]
   unfold swp
   rw[if_neg h2,if_neg h1]
theorem pr_perm (f : Nat → α) : ∀ (n : Nat) (s : Nat → Nat), (∀ i, i < n → s i < n) → (∀ i j, i < n → j < n → s i = s j → i = j) → pr (fun i => f (s i)) n = pr f n
 | 0,_,_,_=>rfl
 | n+1,s,h1,h2=>by
  have hk:=h1 n (by omega)
  have key:∀ i,i<n->swp (s n) n (s i)<n:=fun i hi=>by
   have a:=h1 i (by omega)
   have b:s i≠s n:=fun e=>by have:=h2 i n (by omega) (by omega) e;omega
   unfold swp
   rw[if_neg b]
   split
   ·rename_i e;omega
   ·omega
  have inj:∀ i j,swp (s n) n i=swp (s n) n j->i=j:=fun i j h=>by
   unfold swp at h
   split at h <;> split at h <;> first | omega | (split at h <;> first | omega | (split at h <;> omega))
  have inv:∀ i,swp (s n) n (swp (s n) n i)=i:=fun i=>by
   unfold swp
   split <;> split <;> first | omega | (split <;> omega)
  have ih:=pr_perm (fun i=>f (swp (s n) n i)) n (fun i=>swp (s n) n (s i)) key fun i j hi hj h=>h2 i j (by omega) (by omega) (inj _ _ h)
  rw[← pr_swp f hk (show n<n+1 by omega)]
  show _=pr (fun i=>f (swp (s n) n i)) n*f (swp (s n) n n)
  rw[← ih]
  show pr (fun i=>f (s i)) n*f (s n)=_
  have e:swp (s n) n n=s n:=by
   unfold swp
   split
   ·rename_i h;exact h
   ·rw[if_pos rfl]
  rw[e]
  congr 1
  refine pr_congr fun i _=>?_
  rw[inv]
end
end Crg
end Go.Proofs.YtibaocbpeaejkaaGreat
/- Polynomials over the field of p elements modulo an irreducible one. Plain: no program. -/
namespace Go.Proofs.YtibaocbpeaejkaaGreat
open Crg
namespace Pol
section
variable {K:Type} [Crg K]
theorem ind {Q:Pol K->Prop} (h0:Q 0) (ha:∀ a b,Q a->Q b->Q (a+b)) (hm:∀ c k,Q (mn c k)) (a:Pol K):Q a:=by
 have key:∀(n:Nat) (a:Pol K),(∀ j,n≤j->a.f j=0)->Q a:=by
  intro n
  induction n with
  | zero=>exact fun a h=>by rw[show a=0 from ext fun i=>h i (Nat.zero_le _)];exact h0
  | succ n ih =>
   intro a h
   rw[show a=(a-mn (a.f n) n)+mn (a.f n) n from RE.eq [a,mn (a.f n) n] t0 (t0-t1+t1) rfl]
   refine ha _ _ (ih _ fun j hj=>?_) (hm _ _)
   show a.f j-(if j=n then a.f n else 0)=0
   split
   ·rename_i e;rw[e,sub_self]
   ·rw[h j (by omega),sub_self]
 exact key a.len a (len_out a)
def X:Pol K:=mn 1 1
theorem pw_X : ∀ k, (pw X k : Pol K) = mn 1 k
 | 0=>rfl
 | k+1=>by
  show pw X k*X=_
  rw[pw_X k]
  show mn 1 k*mn 1 1=_
  rw[mn_mn,Crg.mul_one]
theorem mn_X (c:K) (k:Nat):(mn c k:Pol K)=C c*pw X k:=by rw[pw_X,mn_mn,Crg.mul_one,Nat.zero_add]
theorem C_mul_C (c d:K):(C c*C d:Pol K)=C (c*d):=mn_mn c d 0 0
theorem C_pw (c : K) : ∀ n, (pw (C c) n : Pol K) = C (pw c n)
 | 0=>rfl
 | n+1=>by
  show pw (C c) n*C c=C (pw c n*c)
  rw[C_pw c n,C_mul_C]
theorem nc_C : ∀ n, (nc n : Pol K) = C (nc n)
 | 0=>ext fun i=>by
  show(0:K)=if i=0 then 0 else 0
  split <;> rfl
 | n+1=>by
  show nc n+1=C (nc n+1)
  rw[nc_C n,C_add]
  rfl
theorem C_zero:(C 0:Pol K)=0:=ext fun i=>by
 show(if i=0 then(0:K)else 0)=0
 split <;> rfl
end
end Pol
section
variable {p:Int} [hp:Prm p]
theorem Zp.nc_red : ∀ n : Nat, (nc n : Zp p) = Zp.red n
 | 0=>rfl
 | n+1=>by
  show nc n+1=Zp.red ((n:Int)+1)
  rw[Zp.nc_red n,Zp.red_add]
  rfl
theorem Zp.nc_self (c:Zp p):nc c.v.toNat=c:=by
 rw[Zp.nc_red,show((c.v.toNat:Nat):Int)=c.v by have:=c.r.1;omega,Zp.red_v]
theorem Zp.nc_p:(nc p.toNat:Zp p)=0:=by
 rw[Zp.nc_red,show((p.toNat:Nat):Int)=p by have:=hp.two;omega]
 exact Zp.red_eq_zero.2 Int.emod_self
theorem two_le:2≤p.toNat:=by have:=hp.two;omega
theorem prm_dvd {a b:Nat} (h:p.toNat∣a*b):p.toNat∣a∨p.toNat∣b:=by
 have e:(p.toNat:Int)=p:=by have:=hp.two;omega
 have h1:(((a*b:Nat):Int))%p=0:=by
  rw[← e]
  exact Int.emod_eq_zero_of_dvd (Int.natCast_dvd_natCast.2 h)
 rw[Int.natCast_mul]at h1
 have h2:=(Zp.red_eq_zero (p:=p)).2 h1
 rw[Zp.red_mul]at h2
 rcases Fld.domain h2 with h3 | h3
 ·refine .inl (Int.natCast_dvd_natCast.1 ?_)
  rw[e]
  exact Int.dvd_of_emod_eq_zero (Zp.red_eq_zero.1 h3)
 ·refine .inr (Int.natCast_dvd_natCast.1 ?_)
  rw[e]
  exact Int.dvd_of_emod_eq_zero (Zp.red_eq_zero.1 h3)
theorem bin_prm {k:Nat} (h0:0<k) (hk:k<p.toNat):p.toNat∣bin p.toNat k:=by
 have h2:=two_le (p:=p)
 obtain⟨n,hn⟩:∃ n,p.toNat=n+1:=⟨p.toNat-1,by omega⟩
 obtain⟨j,rfl⟩:∃ j,k=j+1:=⟨k-1,by omega⟩
 have h:=bin_mul n j
 rw[← hn]at h
 rcases prm_dvd (p:=p) (a:=bin p.toNat (j+1)) (b:=j+1) ⟨_,h.symm⟩with h3 | h3
 ·exact h3
 ·exact absurd (Nat.le_of_dvd (by omega) h3) (by omega)
end
section
variable {p:Int} [hp:Prm p] {α:Type} [Crg α]
theorem frob1 (h0:(nc p.toNat:α)=0) (a b:α):pw (a+b) p.toNat=pw a p.toNat+pw b p.toNat:=by
 have h2:=two_le (p:=p)
 rw[pw_bin]
 obtain⟨n,hn⟩:∃ n,p.toNat=n+1:=⟨p.toNat-1,by omega⟩
 show sm _ p.toNat+nc (bin p.toNat p.toNat)*(pw a p.toNat*pw b (p.toNat-p.toNat))=_
 rw[bin_self,nc_one,Nat.sub_self]
 have e:sm (fun k=>nc (bin p.toNat k)*(pw a k*pw b (p.toNat-k))) p.toNat=pw b p.toNat:=by
  rw[sm_one (k:=0) (by omega) fun k hk hne=>?_]
  ·rw[bin_zero,nc_one,one_mul,Nat.sub_zero]
   exact one_mul _
  ·obtain⟨m,hm⟩:=bin_prm (p:=p) (k:=k) (by omega) hk
   rw[hm,nc_mul,h0,zero_mul,zero_mul]
 rw[e]
 show _+1*(_*1)=_
 rw[one_mul,mul_one,add_comm]
theorem frobN (h0 : (nc p.toNat : α) = 0) (a b : α) : ∀ d, pw (a + b) (p.toNat ^ d) = pw a (p.toNat ^ d) + pw b (p.toNat ^ d)
 | 0=>by rw[Nat.pow_zero,pw_one,pw_one,pw_one]
 | d+1=>by rw[Nat.pow_succ,pw_mul,frobN h0 a b d,frob1 h0,← pw_mul,← pw_mul]
end
section
variable {p:Int} [hp:Prm p]
theorem Zp.fermat (c:Zp p):pw c p.toNat=c:=by
 have key:∀ n:Nat,(pw (nc n) p.toNat:Zp p)=nc n:=by
  intro n
  induction n with
  | zero =>
   have h2:=two_le (p:=p)
   show pw 0 p.toNat=0
   rw[show p.toNat=p.toNat-1+1 by omega]
   exact mul_zero _
  | succ n ih =>
   show pw (nc n+1) p.toNat=nc n+1
   rw[frob1 Zp.nc_p,ih,one_pw]
 have:=key c.v.toNat
 rwa [Zp.nc_self]at this
theorem Zp.fermatN (c : Zp p) : ∀ d, pw c (p.toNat ^ d) = c
 | 0=>by rw[Nat.pow_zero,pw_one]
 | d+1=>by rw[Nat.pow_succ,pw_mul,Zp.fermatN c d,Zp.fermat]
theorem Pol.nc_p:(nc p.toNat:Pol (Zp p))=0:=by rw[Pol.nc_C,Zp.nc_p,Pol.C_zero]
open Pol
theorem frob_all {P:Pol (Zp p)} {d:Nat} (h:Cgr P (pw X (p.toNat^d)) X) (a:Pol (Zp p)):Cgr P (pw a (p.toNat^d)) a:=by
 refine Pol.ind (Q:=fun a=>Cgr P (pw a (p.toNat^d)) a) ?_ (fun a b ha hb=>?_) (fun c k=>?_) a
 ·rw[show(0:Pol (Zp p))=C 0 from C_zero.symm,C_pw,Zp.fermatN]
  exact Cgr.refl _ _
 ·rw[frobN Pol.nc_p]
  exact ha.add hb
 ·rw[mn_X,mul_pw,C_pw,Zp.fermatN,← pw_mul,Nat.mul_comm k,pw_mul]
  exact(Cgr.refl _ _).mul (h.pw k)
theorem frob_iter {P : Pol (Zp p)} {d : Nat} (h : Cgr P (pw X (p.toNat ^ d)) X) : ∀ k, Cgr P (pw X (p.toNat ^ (d * k))) X
 | 0=>by rw[Nat.mul_zero,Nat.pow_zero,pw_one];exact Cgr.refl _ _
 | k+1=>by
  rw[Nat.mul_succ,Nat.pow_add,pw_mul]
  exact(frob_iter h k |>.pw _).trans h
end
/-! ### Roots modulo an irreducible polynomial -/
section
variable {R:Type} [Crg R]
def hv (y : R) : List R → R
 | []=>0
 | c :: l=>c+y*hv y l
def sd (a : R) : List R → List R
 | []=>[]
 | [_]=>[]
 | _ :: l=>hv a l :: sd a l
theorem hv_sd (a b : R) : ∀ l : List R, hv b l - hv a l = (b - a) * hv b (sd a l)
 | []=>by show(0:R)-0=_*0;rw[sub_self,mul_zero]
 | [c]=>by
  show c+b*0-(c+a*0)=_*0
  rw[mul_zero,mul_zero,mul_zero,sub_self]
 | c :: d :: l=>by
  have ih:=hv_sd a b (d :: l)
  show c+b*hv b (d :: l)-(c+a*hv a (d :: l))=(b-a)*(hv a (d :: l)+b*hv b (sd a (d :: l)))
  generalize hv b (sd a (d :: l))=q at *
  generalize hv b (d :: l)=y at *
  generalize hv a (d :: l)=x at *
  have e:y=x+(b-a)*q:=by rw[← ih];exact RE.eq [x,y] t1 (t0+(t1-t0)) rfl
  rw[e]
  exact RE.eq [c,b,x,a,q] (t0+t1*(t2+(t1-t3)*t4)-(t0+t3*t2)) ((t1-t3)*(t2+t1*t4)) rfl
theorem sd_len (a : R) : ∀ l : List R, (sd a l).length = l.length - 1
 | []=>rfl
 | [_]=>rfl
 | _ :: d :: l=>by
  show(sd a (d :: l)).length+1=_
  rw[sd_len a (d :: l)]
  simp
theorem sd_last (a : R) : ∀ (l : List R), 2 ≤ l.length → (sd a l).getLast? = l.getLast?
 | [_,d],_=>by
  show some (d+a*0)=some d
  rw[mul_zero,add_zero]
 | c :: d :: e :: l,_=>by
  have ih:=sd_last a (d :: e :: l) (by simp)
  have h1:(c :: d :: e :: l).getLast? = (d :: e :: l).getLast? := by simp[List.getLast?_cons]
  rw[h1,← ih]
  show(hv a (d :: e :: l) :: sd a (d :: e :: l)).getLast? = _
  have:sd a (d :: e :: l)=hv a (e :: l) :: sd a (e :: l):=rfl
  rw[this]
  simp[List.getLast?_cons]
structure PrimeId (Z : R → Prop) : Prop where
 sub:∀ a b,Z a->Z b->Z (a-b)
 prime:∀ a b,Z (a*b)->Z a∨Z b
theorem roots_le {Z : R → Prop} (hZ : PrimeId Z) : ∀ (n : Nat) (cs ys : List R) (e : R), cs.length = n + 1 → cs.getLast? = some e → ¬ Z e → (∀ y ∈ ys, Z (hv y cs)) → ys.Pairwise (fun a b => ¬ Z (b - a)) → ys.length ≤ n
 | 0,cs,ys,e,h1,h2,h3,h4,h5=>by
  match cs,h1 with
  | [c],_ =>
   simp at h2
   subst h2
   match ys with
   | []=>exact Nat.le_refl _
   | y :: _ =>
    have:=h4 y (by simp)
    rw[show hv y [c]=c by show c+y*0=c;rw[mul_zero,add_zero]]at this
    exact absurd this h3
 | n+1,cs,ys,e,h1,h2,h3,h4,h5=>by
  match ys,h5 with
  | [],_=>exact Nat.zero_le _
  | a :: ys,h5 =>
   rw[List.pairwise_cons]at h5
   have:=roots_le hZ n (sd a cs) ys e (by rw[sd_len,h1];rfl) (by rw[sd_last a cs (by omega),h2]) h3 (fun y hy=>?_) h5.2
   ·simp only[List.length_cons];omega
   ·have ha:=h4 a (by simp)
    have hb:=h4 y (by simp[hy])
    have h6:=hZ.sub _ _ hb ha
    rw[hv_sd]at h6
    exact(hZ.prime _ _ h6).resolve_left (h5.1 y hy)
end
end Go.Proofs.YtibaocbpeaejkaaGreat
/- Polynomials over the field of p elements by their digits; Fermat modulo an irreducible polynomial; which irreducible polynomials divide x^(p^d) - x. Plain: no program. -/
namespace Go.Proofs.YtibaocbpeaejkaaGreat
open Crg Pol
section
variable {p:Int} [hp:Prm p]
def dgp (p:Int) [Prm p] (n:Nat):Pol (Zp p):=⟨fun i=>Zp.red ((n / p.toNat^i%p.toNat:Nat):Int),n+1,fun j hj=>by
 have h2:=two_le (p:=p)
 have h:n<p.toNat^j:=Nat.lt_of_lt_of_le (by omega:n<j) (Nat.le_of_lt (Nat.lt_pow_self (by omega)))
 rw[Nat.div_eq_of_lt h,Nat.zero_mod]
 rfl⟩
theorem dgp_len {n d:Nat} (h:n<p.toNat^d):(dgp p n).len≤d:=len_le fun j hj=>by
 have h2:=two_le (p:=p)
 have h:n<p.toNat^j:=Nat.lt_of_lt_of_le h (Nat.pow_le_pow_right (by omega) hj)
 show Zp.red ((n / p.toNat^j%p.toNat:Nat):Int)=0
 rw[Nat.div_eq_of_lt h,Nat.zero_mod]
 rfl
def cdp (a : Pol (Zp p)) : Nat → Nat
 | 0=>0
 | d+1=>cdp a d+(a.f d).v.toNat*p.toNat^d
theorem dig_lt (a:Pol (Zp p)) (i:Nat):(a.f i).v.toNat<p.toNat:=by have:=(a.f i).r;omega
theorem cdp_lt (a : Pol (Zp p)) : ∀ d, cdp a d < p.toNat ^ d
 | 0=>Nat.one_pos
 | d+1=>by
  have h1:=cdp_lt a d
  have h2:=Nat.mul_le_mul_right (p.toNat^d) (show(a.f d).v.toNat+1≤p.toNat from dig_lt a d)
  rw[Nat.add_mul,Nat.one_mul]at h2
  show cdp a d+(a.f d).v.toNat*p.toNat^d<p.toNat^(d+1)
  rw[Nat.pow_succ,Nat.mul_comm (p.toNat^d)]
  omega
theorem cdp_dig (a : Pol (Zp p)) : ∀ {d i : Nat}, i < d → cdp a d / p.toNat ^ i % p.toNat = (a.f i).v.toNat
 | d+1,i,h=>by
  have h2:=two_le (p:=p)
  show(cdp a d+(a.f d).v.toNat*p.toNat^d) / p.toNat^i%p.toNat=_
  rcases Nat.lt_or_ge i d with h1 | h1
  ·obtain⟨k,rfl⟩:∃ k,d=i+(k+1):=⟨d-i-1,by omega⟩
   rw[Nat.pow_add,← Nat.mul_assoc,Nat.mul_right_comm,Nat.add_mul_div_right _ _ (Nat.pow_pos (by omega)),Nat.pow_succ,← Nat.mul_assoc,Nat.add_mul_mod_self_right]
   exact cdp_dig a h1
  ·obtain rfl:i=d:=by omega
   rw[Nat.add_mul_div_right _ _ (Nat.pow_pos (by omega)),Nat.div_eq_of_lt (cdp_lt a i),Nat.zero_add,Nat.mod_eq_of_lt (dig_lt a i)]
theorem dgp_cdp {a:Pol (Zp p)} {d:Nat} (h:a.len≤d):dgp p (cdp a d)=a:=Pol.ext fun i=>by
 have h2:=two_le (p:=p)
 show Zp.red ((cdp a d / p.toNat^i%p.toNat:Nat):Int)=a.f i
 rcases Nat.lt_or_ge i d with h1 | h1
 ·rw[cdp_dig a h1,show(((a.f i).v.toNat:Nat):Int)=(a.f i).v by have:=(a.f i).r;omega,Zp.red_v]
 ·rw[len_out a i (by omega),Nat.div_eq_of_lt (Nat.lt_of_lt_of_le (cdp_lt a d) (Nat.pow_le_pow_right (by omega) h1)),Nat.zero_mod]
  rfl
theorem dgp_inj {n m d:Nat} (hn:n<p.toNat^d) (hm:m<p.toNat^d) (h:dgp p n=dgp p m):n=m:=by
 have h2:=two_le (p:=p)
 have key:∀ i,n / p.toNat^i%p.toNat=m / p.toNat^i%p.toNat:=fun i=>by
  have e:=congrArg (fun a:Pol (Zp p)=>(a.f i).v) h
  have e:((n / p.toNat^i%p.toNat:Nat):Int)%p=((m / p.toNat^i%p.toNat:Nat):Int)%p:=e
  have l1:=Nat.mod_lt (n / p.toNat^i) (show 0<p.toNat by omega)
  have l2:=Nat.mod_lt (m / p.toNat^i) (show 0<p.toNat by omega)
  rw[Int.emod_eq_of_lt (by omega) (by omega),Int.emod_eq_of_lt (by omega) (by omega)]at e
  omega
 have all:∀ k i,k=d-i->i≤d->n / p.toNat^i=m / p.toNat^i:=by
  intro k
  induction k with
  | zero =>
   intro i hk hi
   obtain rfl:i=d:=by omega
   rw[Nat.div_eq_of_lt hn,Nat.div_eq_of_lt hm]
  | succ k ih =>
   intro i hk hi
   have h3:=ih (i+1) (by omega) (by omega)
   rw[Nat.pow_succ,← Nat.div_div_eq_div_mul,← Nat.div_div_eq_div_mul]at h3
   have a1:=Nat.div_add_mod (n / p.toNat^i) p.toNat
   have a2:=Nat.div_add_mod (m / p.toNat^i) p.toNat
   rw[h3,key i]at a1
   omega
 have:=all d 0 (by omega) (Nat.zero_le _)
 rwa [Nat.pow_zero,Nat.div_one,Nat.div_one]at this
theorem dgp_zero:dgp p 0=0:=Pol.ext fun i=>by
 show Zp.red ((0 / p.toNat^i%p.toNat:Nat):Int)=0
 rw[Nat.zero_div,Nat.zero_mod]
 rfl
end
/-! ### Remainders -/
namespace Pol
section
variable {K:Type} [Fld K]
noncomputable def rm (a m:Pol K):Pol K:=open Classical in if h:m=0 then a else(div_ex a h).choose_spec.choose
theorem rm_spec (a:Pol K) {m:Pol K} (h:m≠0):Cgr m a (rm a m)/\(rm a m).len<m.len:=by
 unfold rm
 rw[dif_neg h]
 obtain⟨e,hl⟩:=(div_ex a h).choose_spec.choose_spec
 refine⟨⟨(div_ex a h).choose,?_⟩,hl⟩
 generalize (div_ex a h).choose_spec.choose=r at e
 generalize (div_ex a h).choose=q at e
 rw[e]
 exact RE.eq [q,m,r] (t0*t1+t2-t2) (t1*t0) rfl
theorem Cgr.eq {m a b:Pol K} (h:Cgr m a b) (ha:a.len<m.len) (hb:b.len<m.len):a=b:=by
 refine sub_eq_zero.1 (Classical.byContradiction fun hne=>?_)
 have h1:=Dvs.len h hne
 have:=len_sub a b
 omega
theorem rm_self {a m:Pol K} (h:a.len<m.len):rm a m=a:=by
 have hm:m≠0:=ne_of_len (by omega)
 obtain⟨h1,h2⟩:=rm_spec a hm
 exact(h1.eq h h2).symm
end
end Pol
section
variable {p:Int} [hp:Prm p]
theorem pr_dvs {K : Type} [Fld K] {P : Pol K} (h : Irr P) (g : Nat → Pol K) : ∀ n, (∀ i, i < n → ¬ Dvs P (g i)) → ¬ Dvs P (pr g n)
 | 0,_,hd=>by
  have h1:P.len≤(1:Pol K).len:=Dvs.len hd Pol.one_ne
  have:=h.two
  rw[len_one]at h1
  omega
 | n+1,hi,hd=>by
  rcases h.prime (show Dvs P (pr g n*g n)from hd)with h1 | h1
  ·exact pr_dvs h g n (fun i hi'=>hi i (by omega)) h1
  ·exact hi n (by omega) h1
theorem fermat_irr {P:Pol (Zp p)} (h:Irr P) (a:Pol (Zp p)):Cgr P (pw a (p.toNat^(P.len-1))) a:=by
 have h2:=two_le (p:=p)
 have ht:=h.two
 have hne:=h.ne
 obtain⟨N,hN⟩:∃ N,p.toNat^(P.len-1)=N+1:=⟨p.toNat^(P.len-1)-1,by have:=Nat.pow_pos (n:=P.len-1) (show 0<p.toNat by omega);omega⟩
 by_cases ha:Dvs P a
 ·have h1:Cgr P a 0:=Cgr.zero.2 ha
  rw[hN]
  refine Cgr.trans (b:=0) (Cgr.zero.2 ?_) h1.symm
  exact ha.mul' _
 have sm:∀ n,n<p.toNat^(P.len-1)->(dgp p n).len<P.len:=fun n hn=>by have:=dgp_len hn;omega
 have nz:∀ n,n<p.toNat^(P.len-1)->n≠0->¬ Dvs P (dgp p n):=fun n hn h0 hd=>by
  have e:dgp p n=dgp p 0:=by
   rw[dgp_zero]
   exact(Cgr.zero.2 hd).eq (sm n hn) (by rw[len_zero];omega)
  exact h0 (dgp_inj hn (by omega) e)
 let s:Nat->Nat:=fun n=>cdp (rm (a*dgp p n) P) (P.len-1)
 have hs:∀ n,dgp p (s n)=rm (a*dgp p n) P:=fun n=>dgp_cdp (by have:=(rm_spec (a*dgp p n) hne).2;omega)
 have s_lt:∀ n,s n<p.toNat^(P.len-1):=fun n=>cdp_lt _ _
 have s_c:∀ n,Cgr P (a*dgp p n) (dgp p (s n)):=fun n=>by rw[hs];exact(rm_spec _ hne).1
 have s0:∀ n,n<p.toNat^(P.len-1)->s n=0->n=0:=fun n hn e=>Classical.byContradiction fun h0=>by
  have:=s_c n
  rw[e,dgp_zero]at this
  rcases h.prime (Cgr.zero.1 this)with h1 | h1
  ·exact ha h1
  ·exact nz n hn h0 h1
 have s00:s 0=0:=by
  refine dgp_inj (d:=P.len-1) (s_lt 0) (by omega) ?_
  rw[hs,dgp_zero,mul_zero,rm_self (by rw[len_zero];omega)]
 have inj:∀ i j,i<p.toNat^(P.len-1)->j<p.toNat^(P.len-1)->s i=s j->i=j:=fun i j hi hj e=>by
  have h1:=s_c i
  rw[e]at h1
  have h3:=h1.trans (s_c j).symm
  have h4:Dvs P (a*(dgp p i-dgp p j)):=by
   rw[show a*(dgp p i-dgp p j)=a*dgp p i-a*dgp p j from RE.eq [a,dgp p i,dgp p j] (t0*(t1-t2)) (t0*t1-t0*t2) rfl]
   exact h3
  have h5:Cgr P (dgp p i) (dgp p j):=(h.prime h4).resolve_left ha
  exact dgp_inj hi hj (h5.eq (sm i hi) (sm j hj))
 let g:Nat->Pol (Zp p):=fun n=>if n=0 then 1 else dgp p n
 have e1:=pr_perm g (p.toNat^(P.len-1)) s (fun i _=>s_lt i) inj
 have e2:Cgr P (pr (fun i=>g (s i)) (p.toNat^(P.len-1))) (pr (fun i=>(if i=0 then 1 else a)*g i) (p.toNat^(P.len-1))):=by
  have key:∀ k,k≤p.toNat^(P.len-1)->Cgr P (pr (fun i=>g (s i)) k) (pr (fun i=>(if i=0 then 1 else a)*g i) k):=by
   intro k
   induction k with
   | zero=>exact fun _=>Cgr.refl _ _
   | succ k ih =>
    intro hk
    refine(ih (by omega)).mul ?_
    show Cgr P (if s k=0 then 1 else dgp p (s k)) ((if k=0 then 1 else a)*if k=0 then 1 else dgp p k)
    by_cases h0:k=0
    ·rw[h0,s00,if_pos rfl,if_pos rfl,mul_one]
     exact Cgr.refl _ _
    ·rw[if_neg h0,if_neg h0,if_neg (fun e=>h0 (s0 k (by omega) e))]
     exact(s_c k).symm
  exact key _ (Nat.le_refl _)
 rw[e1,pr_mul]at e2
 have e3:pr (fun i=>if i=0 then 1 else a) (p.toNat^(P.len-1))=pw a N:=by
  rw[hN]
  have:∀ m,pr (fun i=>if i=0 then(1:Pol (Zp p))else a) (m+1)=pw a m:=by
   intro m
   induction m with
   | zero=>exact mul_one _
   | succ m ih =>
    show pr (fun i=>if i=0 then(1:Pol (Zp p))else a) (m+1)*(if m+1=0 then 1 else a)=pw a m*a
    rw[ih,if_neg (by omega)]
  exact this N
 rw[e3]at e2
 have hg:¬ Dvs P (pr g (p.toNat^(P.len-1))):=pr_dvs h g _ fun i hi=>by
  show ¬ Dvs P (if i=0 then 1 else dgp p i)
  split
  ·intro hd
   have:=Dvs.len hd Pol.one_ne
   rw[len_one]at this
   omega
  ·rename_i h0
   exact nz i hi h0
 generalize pr g (p.toNat^(P.len-1))=G at *
 have h6:Dvs P (G*(pw a N-1)):=by
  rw[show G*(pw a N-1)=pw a N*G-G from RE.eq [G,pw a N] (t0*(t1-1)) (t1*t0-t0) rfl]
  exact Cgr.symm e2
 have h7:=(h.prime h6).resolve_left hg
 rw[hN]
 show Dvs P (pw a N*a-a)
 rw[show pw a N*a-a=(pw a N-1)*a from RE.eq [a,pw a N] (t1*t0-t0) ((t1-1)*t0) rfl]
 exact h7.mul a
theorem irr_prime {P:Pol (Zp p)} (h:Irr P):PrimeId (Dvs P):=⟨fun _ _ h1 h2=>h1.sub h2,fun _ _ h1=>h.prime h1⟩
theorem hv_rep {R : Type} [Crg R] (y : R) (e : R) : ∀ k, hv y (List.replicate k 0 ++ [e]) = pw y k * e
 | 0=>by show e+y*0=1*e;rw[mul_zero,add_zero,one_mul]
 | k+1=>by
  show 0+y*hv y (List.replicate k 0++[e])=pw y k*y*e
  rw[hv_rep y e k,zero_add]
  exact RE.eq [y,pw y k,e] (t0*(t1*t2)) (t1*t0*t2) rfl
theorem deg_le {P:Pol (Zp p)} (h:Irr P) {d:Nat} (hd:1≤d) (hx:Cgr P (pw X (p.toNat^d)) X):P.len≤d+1:=by
 have h2:=two_le (p:=p)
 have ht:=h.two
 have hN:2≤p.toNat^d:=Nat.le_trans h2 (Nat.le_trans (by rw[Nat.pow_one];exact Nat.le_refl _) (Nat.pow_le_pow_right (n:=p.toNat) (by omega) hd))
 obtain⟨k,hk⟩:∃ k,p.toNat^d=k+2:=⟨p.toNat^d-2,by omega⟩
 let cs:List (Pol (Zp p)):=0 :: -1 :: (List.replicate k 0++[1])
 have hcs:∀ y,hv y cs=pw y (p.toNat^d)-y:=fun y=>by
  show 0+y*(-1+y*hv y (List.replicate k 0++[1]))=_
  rw[hv_rep,hk]
  show _=pw y k*y*y-y
  exact RE.eq [y,pw y k] (0+t0*(-1+t0*(t1*1))) (t1*t0*t0-t0) rfl
 have hr:=roots_le (irr_prime h) (p.toNat^d) cs ((List.range (p.toNat^(P.len-1))).map (dgp p)) 1 (by simp[cs,hk]) (by simp[cs,List.getLast?_cons]) (fun hd=>by
  have:=Dvs.len hd Pol.one_ne
  rw[len_one]at this
  omega) (fun y _=>by rw[hcs];exact frob_all hx y) (by
  rw[List.pairwise_map]
  refine List.Pairwise.imp_of_mem (R:=fun a b=>a<b) (fun {a b} ha hb hab hdv=>?_) List.pairwise_lt_range
  have ha:=List.mem_range.1 ha
  have hb:=List.mem_range.1 hb
  have e:dgp p b=dgp p a:=Cgr.eq hdv (by have:=dgp_len hb;omega) (by have:=dgp_len ha;omega)
  have:=dgp_inj hb ha e
  omega)
 rw[List.length_map,List.length_range]at hr
 have:=(Nat.pow_le_pow_iff_right (a:=p.toNat) (by omega)).1 hr
 omega
theorem deg_dvd {P:Pol (Zp p)} (h:Irr P) {d:Nat}:Cgr P (pw X (p.toNat^d)) X↔P.len-1∣d:=by
 have ht:=h.two
 have hf:=fermat_irr h X
 refine⟨fun hx=>?_,fun⟨k,hk⟩=>by rw[hk];exact frob_iter hf k⟩
 have e:=Nat.div_add_mod d (P.len-1)
 have hl:=Nat.mod_lt d (show 0<P.len-1 by omega)
 rw[← e,Nat.pow_add,pw_mul]at hx
 have h1:=((frob_iter hf (d / (P.len-1))).pw (p.toNat^(d%(P.len-1)))).symm.trans hx
 refine Nat.dvd_of_mod_eq_zero (Classical.byContradiction fun hne=>?_)
 have:=deg_le h (by omega) h1
 omega
end
end Go.Proofs.YtibaocbpeaejkaaGreat
/- The derivative; polynomials without square divisors; irreducible polynomials of each degree. Plain: no program. -/
namespace Go.Proofs.YtibaocbpeaejkaaGreat
open Crg
namespace Pol
section
variable {K:Type} [Crg K]
theorem mn_zero (k:Nat):(mn 0 k:Pol K)=0:=ext fun i=>by
 show(if i=k then(0:K)else 0)=0
 split <;> rfl
def dv (a:Pol K):Pol K:=⟨fun i=>nc (i+1)*a.f (i+1),a.len,fun j hj=>by rw[len_out a _ (by omega),mul_zero]⟩
theorem dv_add (a b:Pol K):dv (a+b)=dv a+dv b:=ext fun _=>mul_add _ _ _
theorem dv_zero:dv (0:Pol K)=0:=ext fun _=>mul_zero _
theorem dv_mn (c:K) (k:Nat):dv (mn c k)=mn (nc k*c) (k-1):=ext fun i=>by
 show nc (i+1)*(if i+1=k then c else 0)=if i=k-1 then nc k*c else 0
 by_cases h:i+1=k
 ·rw[if_pos h,if_pos (by omega),h]
 ·rw[if_neg h,mul_zero]
  split
  ·rw[show k=0 by omega]
   exact(zero_mul c).symm
  ·rfl
theorem dv_mul (a b:Pol K):dv (a*b)=dv a*b+a*dv b:=by
 refine ind (Q:=fun a=>dv (a*b)=dv a*b+a*dv b) ?_ (fun a c ha hc=>?_) (fun c k=>?_) a
 ·rw[zero_mul,dv_zero,zero_mul,zero_mul,Crg.add_zero]
 ·rw[add_mul,dv_add,ha,hc,dv_add]
  exact RE.eq [a,b,c,dv a,dv b,dv c] (t3*t1+t0*t4+(t5*t1+t2*t4)) ((t3+t5)*t1+(t0+t2)*t4) rfl
 ·refine ind (Q:=fun b=>dv (mn c k*b)=dv (mn c k)*b+mn c k*dv b) ?_ (fun a d ha hd=>?_) (fun d l=>?_) b
  ·rw[mul_zero,dv_zero,mul_zero,mul_zero,Crg.add_zero]
  ·rw[mul_add,dv_add,ha,hd,dv_add]
   exact RE.eq [mn c k,dv (mn c k),a,d,dv a,dv d] (t1*t2+t0*t4+(t1*t3+t0*t5)) (t1*(t2+t3)+t0*(t4+t5)) rfl
  ·rw[mn_mn,dv_mn,dv_mn,dv_mn,mn_mn,mn_mn,nc_add]
   have e1:(mn (nc k*c*d) (k-1+l):Pol K)=mn (nc k*c*d) (k+l-1):=by
    rcases Nat.eq_zero_or_pos k with h | h
    ·subst h
     show(mn (0*c*d) _:Pol K)=mn (0*c*d) _
     rw[zero_mul,zero_mul,mn_zero,mn_zero]
    ·rw[show k-1+l=k+l-1 by omega]
   have e2:(mn (c*(nc l*d)) (k+(l-1)):Pol K)=mn (c*(nc l*d)) (k+l-1):=by
    rcases Nat.eq_zero_or_pos l with h | h
    ·subst h
     show(mn (c*(0*d)) _:Pol K)=mn (c*(0*d)) _
     rw[zero_mul,mul_zero,mn_zero,mn_zero]
    ·rw[show k+(l-1)=k+l-1 by omega]
   rw[e1,e2]
   refine ext fun i=>?_
   show(if i=k+l-1 then(nc k+nc l)*(c*d)else 0)=(if i=k+l-1 then nc k*c*d else 0)+if i=k+l-1 then c*(nc l*d)else 0
   split
   ·exact RE.eq [nc k,nc l,c,d] ((t0+t1)*(t2*t3)) (t0*t2*t3+t2*(t1*t3)) rfl
   ·exact(Crg.add_zero _).symm
theorem dv_sub (a b:Pol K):dv (a-b)=dv a-dv b:=by
 have h:=dv_add (a-b) b
 rw[show a-b+b=a from RE.eq [a,b] (t0-t1+t1) t0 rfl]at h
 rw[h]
 exact RE.eq [dv (a-b),dv b] t0 (t0+t1-t1) rfl
end
section
variable {K:Type} [Fld K]
def Sqf (a:Pol K):Prop:=∀ P,Irr P->¬ Dvs (P*P) a
theorem Irr.not_one {P:Pol K} (h:Irr P):¬ Dvs P 1:=fun hd=>by
 have:=Dvs.len hd one_ne
 have:=h.two
 rw[len_one]at *
 omega
theorem Sqf.dvs : ∀ (n : Nat) {a h : Pol K}, a.len ≤ n → a ≠ 0 → Sqf a → (∀ P, Irr P → Dvs P a → Dvs P h) → Dvs a h
 | 0,a,h,hn,ha,_,_=>absurd (len_nil (a:=a) (by omega)) ha
 | n+1,a,h,hn,ha,hs,hd=>by
  rcases Nat.lt_or_ge a.len 2 with h1 | h1
  ·have:=len_pos ha
   obtain⟨w,hw,_⟩:=unit (a:=a) (by omega)
   exact⟨w*h,by rw[← Crg.mul_assoc,hw,one_mul]⟩
  obtain⟨P,hP,c,rfl⟩:=ex_irr a.len a (Nat.le_refl _) h1
  have hP0:=hP.ne
  have hc:c≠0:=fun e=>ha (by rw[e,mul_zero])
  have hl:=len_mul hP0 hc
  have:=hP.two
  have hsc:Sqf c:=fun S hS hSc=>hs S hS (hSc.mul' P)
  have hcd:=Sqf.dvs n (by omega) hc hsc fun S hS hSc=>hd S hS (hSc.mul' P)
  have hPd:=hd P hP ⟨c,rfl⟩
  refine Cop.both ((hP.or c).resolve_left fun⟨x,hx⟩=>hs P hP ⟨x,?_⟩) hPd hcd
  rw[hx,Crg.mul_assoc]
end
end Pol
open Pol
section
variable {p:Int} [hp:Prm p]
omit hp in
theorem nc_pow {α:Type} [Crg α] (h0:(nc p.toNat:α)=0) {d:Nat} (hd:1≤d):(nc (p.toNat^d):α)=0:=by
 rw[show d=1+(d-1)by omega,Nat.pow_add,Nat.pow_one,nc_mul,h0,zero_mul]
noncomputable abbrev fro (p:Int) [Prm p] (d:Nat):Pol (Zp p):=pw X (p.toNat^d)-X
theorem fro_len {d:Nat} (hd:1≤d):(fro p d).len=p.toNat^d+1:=by
 have h2:=two_le (p:=p)
 have hN:2≤p.toNat^d:=Nat.le_trans h2 (Nat.le_trans (by rw[Nat.pow_one];exact Nat.le_refl _) (Nat.pow_le_pow_right (n:=p.toNat) (by omega) hd))
 refine len_eq (fun j hj=>?_) ?_
 ·show(pw X (p.toNat^d)).f j-(X:Pol (Zp p)).f j=0
  rw[pw_X]
  show(if j=p.toNat^d then(1:Zp p)else 0)-(if j=1 then 1 else 0)=0
  rw[if_neg (by omega),if_neg (by omega),sub_self]
 ·show(pw X (p.toNat^d)).f (p.toNat^d)-(X:Pol (Zp p)).f (p.toNat^d)≠0
  rw[pw_X]
  show(if p.toNat^d=p.toNat^d then(1:Zp p)else 0)-(if p.toNat^d=1 then 1 else 0)≠0
  rw[if_pos rfl,if_neg (by omega),sub_zero]
  exact Fld.one_ne
theorem fro_sqf {d:Nat} (hd:1≤d):Sqf (fro p d):=fun P hP ⟨h,e⟩=>by
 have e1:dv (fro p d) = -1:=by
  rw[dv_sub,pw_X,dv_mn,nc_pow Zp.nc_p hd,zero_mul,mn_zero]
  show 0-dv (mn 1 1) = -1
  rw[dv_mn,nc_one,Crg.mul_one]
  exact RE.eq (α:=Pol (Zp p)) [] (0-1) (-1) rfl
 rw[e,Crg.mul_assoc,dv_mul]at e1
 have h1:Dvs P (-1):=by
  rw[← e1,dv_mul]
  exact Dvs.add ((Dvs.mul ⟨h,rfl⟩ (dv P)) |> fun k=>by rw[Crg.mul_comm];exact k) (Dvs.mul ⟨1,(Crg.mul_one P).symm⟩ _)
 have h2:=h1.neg
 rw[neg_neg]at h2
 exact hP.not_one h2
theorem irr_dvs_fro {P:Pol (Zp p)} (h:Irr P) {d:Nat}:Dvs P (fro p d)↔P.len-1∣d:=deg_dvd h
end
end Go.Proofs.YtibaocbpeaejkaaGreat
/- Values of polynomials; reciprocity of irreducible polynomials over the field of p elements. Plain: no program. -/
namespace Go.Proofs.YtibaocbpeaejkaaGreat
open Crg
structure Hm {A B : Type} [Crg A] [Crg B] (φ : A → B) : Prop where
 add:∀ a b,φ (a+b)=φ a+φ b
 mul:∀ a b,φ (a*b)=φ a*φ b
 one:φ 1=1
namespace Hm
variable {A B:Type} [Crg A] [Crg B] {φ:A->B}
theorem zero (h:Hm φ):φ 0=0:=by
 have:=h.add 0 0
 rw[add_zero]at this
 exact add_left_cancel (a:=φ 0) (by rw[add_zero];exact this.symm)
theorem neg (h:Hm φ) (a:A):φ (-a) = -φ a:=neg_eq (by rw[← h.add,add_neg,h.zero])
theorem sub (h:Hm φ) (a b:A):φ (a-b)=φ a-φ b:=by rw[sub_def,h.add,h.neg,← sub_def]
theorem pw (h : Hm φ) (a : A) : ∀ n, φ (Crg.pw a n) = Crg.pw (φ a) n
 | 0=>h.one
 | n+1=>by
  show φ (Crg.pw a n*a)=Crg.pw (φ a) n*φ a
  rw[h.mul,h.pw a n]
theorem pr (h : Hm φ) (g : Nat → A) : ∀ n, φ (Crg.pr g n) = Crg.pr (fun i => φ (g i)) n
 | 0=>h.one
 | n+1=>by
  show φ (Crg.pr g n*g n)=_*_
  rw[h.mul,h.pr g n]
theorem id:Hm (fun a:A=>a):=⟨fun _ _=>rfl,fun _ _=>rfl,rfl⟩
end Hm
namespace Pol
section
variable {A B:Type} [Crg A] [Crg B]
noncomputable def ev (φ:A->B) (y:B) (a:Pol A):B:=sm (fun i=>φ (a.f i)*pw y i) a.len
theorem ev_le {φ:A->B} (h:Hm φ) (y:B) {a:Pol A} {n:Nat} (hn:∀ j,n≤j->a.f j=0):ev φ y a=sm (fun i=>φ (a.f i)*pw y i) n :=
 (sm_more (f:=fun i=>φ (a.f i)*pw y i) (n:=a.len) (fun i hi=>by rw[len_out a i hi,h.zero,zero_mul]) (m:=n) (len_le hn)).symm
theorem ev_add {φ:A->B} (h:Hm φ) (y:B) (a b:Pol A):ev φ y (a+b)=ev φ y a+ev φ y b:=by
 rw[ev_le h y (a:=a) (n:=max a.len b.len) (fun j hj=>len_out a j (by omega)),ev_le h y (a:=b) (n:=max a.len b.len) (fun j hj=>len_out b j (by omega)),ev_le h y (a:=a+b) (n:=max a.len b.len) (fun j hj=>by rw[f_add,len_out a j (by omega),len_out b j (by omega),Crg.add_zero]),← sm_add]
 refine sm_congr fun i _=>?_
 rw[f_add,h.add,add_mul]
theorem ev_zero {φ:A->B} (h:Hm φ) (y:B):ev φ y 0=0:=by
 rw[ev_le h y (n:=0) fun _ _=>rfl]
 rfl
theorem ev_mn {φ:A->B} (h:Hm φ) (y:B) (c:A) (k:Nat):ev φ y (mn c k)=φ c*pw y k:=by
 rw[ev_le h y (n:=k+1) fun j hj=>if_neg (by omega)]
 rw[sm_one (k:=k) (by omega) fun i hi hne=>by
  show φ (if i=k then c else 0)*_=0
  rw[if_neg hne,h.zero,zero_mul]]
 show φ (if k=k then c else 0)*_=_
 rw[if_pos rfl]
theorem ev_mul {φ:A->B} (h:Hm φ) (y:B) (a b:Pol A):ev φ y (a*b)=ev φ y a*ev φ y b:=by
 refine ind (Q:=fun a=>ev φ y (a*b)=ev φ y a*ev φ y b) ?_ (fun a c ha hc=>?_) (fun c k=>?_) a
 ·rw[zero_mul,ev_zero h,zero_mul]
 ·rw[add_mul,ev_add h,ev_add h,add_mul,ha,hc]
 ·refine ind (Q:=fun b=>ev φ y (mn c k*b)=ev φ y (mn c k)*ev φ y b) ?_ (fun a d ha hd=>?_) (fun d l=>?_) b
  ·rw[mul_zero,ev_zero h,mul_zero]
  ·rw[mul_add,ev_add h,ev_add h,mul_add,ha,hd]
  ·rw[mn_mn,ev_mn h,ev_mn h,ev_mn h,h.mul,pw_add]
   exact RE.eq [φ c,φ d,pw y k,pw y l] (t0*t1*(t2*t3)) (t0*t2*(t1*t3)) rfl
theorem ev_hm {φ:A->B} (h:Hm φ) (y:B):Hm (ev φ y):=⟨ev_add h y,ev_mul h y,by
 show ev φ y (mn 1 0)=1
 rw[ev_mn h,h.one]
 exact mul_one _⟩
theorem ev_X {φ:A->B} (h:Hm φ) (y:B):ev φ y X=y:=by
 show ev φ y (mn 1 1)=y
 rw[ev_mn h,h.one,one_mul,pw_one]
theorem ev_C {φ:A->B} (h:Hm φ) (y:B) (c:A):ev φ y (C c)=φ c:=by
 rw[ev_mn h]
 exact mul_one _
theorem C_hm:Hm (C:A->Pol A):=⟨C_add,fun c d=>(C_mul_C c d).symm,rfl⟩
theorem hm_ext {φ ψ:Pol A->B} (h:Hm φ) (k:Hm ψ) (h1:∀ c,φ (C c)=ψ (C c)) (h2:φ X=ψ X) (a:Pol A):φ a=ψ a:=by
 refine ind (Q:=fun a=>φ a=ψ a) (by rw[h.zero,k.zero]) (fun a b ha hb=>by rw[h.add,k.add,ha,hb]) (fun c n=>?_) a
 rw[mn_X,h.mul,k.mul,h.pw,k.pw,h1,h2]
theorem Hm.comp {A B D:Type} [Crg A] [Crg B] [Crg D] {φ:A->B} {ψ:B->D} (h:Hm φ) (k:Hm ψ):Hm fun a=>ψ (φ a) :=
 ⟨fun a b=>by rw[h.add,k.add],fun a b=>by rw[h.mul,k.mul],by rw[h.one,k.one]⟩
noncomputable def up (a:Pol A):Pol (Pol A):=ev (fun c=>C (C c)) X a
theorem CC_hm:Hm (fun c:A=>(C (C c):Pol (Pol A))):=Hm.comp C_hm C_hm
theorem up_hm:Hm (up:Pol A->Pol (Pol A)):=ev_hm CC_hm X
theorem up_X:up (X:Pol A)=X:=ev_X CC_hm X
theorem up_C (c:A):up (C c)=C (C c):=ev_C CC_hm X c
theorem up_f (a:Pol A) (i:Nat):(up a).f i=C (a.f i):=by
 refine ind (Q:=fun a=>(up a).f i=C (a.f i)) ?_ (fun a b ha hb=>?_) (fun c k=>?_) a
 ·rw[up_hm.zero]
  exact C_zero.symm
 ·rw[up_hm.add,f_add,ha,hb,f_add,C_add]
 ·rw[mn_X,up_hm.mul,up_C,up_hm.pw,up_X,pw_X,C_mul,C_mul,pw_X]
  show C c*(if i=k then 1 else 0)=C (c*if i=k then 1 else 0)
  split
  ·rw[Crg.mul_one,Crg.mul_one]
  ·rw[mul_zero,mul_zero,C_zero]
theorem up_len (a:Pol A):(up a).len≤a.len:=len_le fun j hj=>by rw[up_f,len_out a j hj,C_zero]
end
section
variable {R:Type} [Crg R]
theorem div_monic {b : Pol R} {k : Nat} (hb : b.len ≤ k + 1) (h1 : b.f k = 1) : ∀ (n : Nat) (a : Pol R), a.len ≤ n → ∃ q r, a = q * b + r ∧ r.len ≤ k
 | 0,a,h=>⟨0,a,by rw[zero_mul,zero_add],by omega⟩
 | n+1,a,h=>by
  rcases Nat.lt_or_ge k a.len with h3 | h3
  ·let m:Pol R:=mn (a.f (a.len-1)) (a.len-(k+1))
   have hs:(a-m*b).len≤n:=len_le fun j hj=>by
    rw[f_sub,mn_mul]
    rcases Nat.lt_or_ge j a.len with h4 | h4
    ·have e:j=a.len-1:=by omega
     rw[if_pos (by omega),show j-(a.len-(k+1))=k by omega,h1,Crg.mul_one,e,sub_self]
    ·rw[len_out a j h4,if_pos (by omega),len_out b _ (by omega),mul_zero,sub_self]
   obtain⟨q,r,e,hr⟩:=div_monic hb h1 n (a-m*b) hs
   refine⟨m+q,r,?_,hr⟩
   have:a=m*b+(a-m*b):=RE.eq [a,m,b] t0 (t1*t2+(t0-t1*t2)) rfl
   rw[this,e]
   exact RE.eq [m,b,q,r] (t0*t1+(t2*t1+t3)) ((t0+t2)*t1+t3) rfl
  ·exact⟨0,a,by rw[zero_mul,zero_add],h3⟩
end
end Pol
theorem Crg.pr_swap {α : Type} [Crg α] (f : Nat → Nat → α) (m : Nat) : ∀ n, pr (fun i => pr (f i) m) n = pr (fun j => pr (fun i => f i j) n) m
 | 0=>by
  show(1:α)=pr (fun _=>1) m
  rw[pr_const,one_pw]
 | n+1=>by
  show pr (fun i=>pr (f i) m) n*pr (f n) m=pr (fun j=>pr (fun i=>f i j) n*f n j) m
  rw[pr_swap f m n,pr_mul]
theorem Crg.pr_zero {α : Type} [Crg α] {f : Nat → α} {k : Nat} : ∀ {n : Nat}, k < n → f k = 0 → pr f n = 0
 | n+1,h,e=>by
  show pr f n*f n=0
  by_cases hk:k=n
  ·rw[← hk,e,mul_zero]
  ·rw[pr_zero (show k<n by omega) e,zero_mul]
theorem Crg.pr_pw {α : Type} [Crg α] (a : α) (e : Nat → Nat) : ∀ n, pr (fun i => pw a (e i)) n = pw a (Nat.rec 0 (fun i s => s + e i) n)
 | 0=>rfl
 | n+1=>by
  show pr (fun i=>pw a (e i)) n*pw a (e n)=_
  rw[pr_pw a e n,← pw_add]
def geo (q:Nat) (n:Nat):Nat:=Nat.rec 0 (fun i s=>s+q^i) n
theorem geo_eq (q : Nat) : ∀ n, (q - 1) * geo q n = q ^ n - 1
 | 0=>by rw[Nat.pow_zero];rfl
 | n+1=>by
  show(q-1)*(geo q n+q^n)=_
  rw[Nat.mul_add,geo_eq q n,Nat.pow_succ,Nat.mul_comm (q^n),Nat.sub_mul,Nat.one_mul]
  rcases Nat.eq_zero_or_pos q with h | h
  ·subst h
   rcases Nat.eq_zero_or_pos n with h | h
   ·subst h;rfl
   ·rw[Nat.zero_pow h]
  ·have h1:=Nat.pow_pos (n:=n) h
   have h2:=Nat.mul_le_mul_right (q^n) h
   omega
end Go.Proofs.YtibaocbpeaejkaaGreat
/- Reciprocity of irreducible polynomials over the field of p elements. Plain: no program. -/
namespace Go.Proofs.YtibaocbpeaejkaaGreat
open Crg Pol
section
variable {R:Type} [Crg R]
theorem hv_app (y : R) (e : R) : ∀ l : List R, hv y (l ++ [e]) = hv y l + pw y l.length * e
 | []=>by
  show e+y*0=0+1*e
  rw[mul_zero,add_zero,one_mul,zero_add]
 | c :: l=>by
  show c+y*hv y (l++[e])=c+y*hv y l+pw y l.length*y*e
  rw[hv_app y e l]
  exact RE.eq [c,y,hv y l,pw y l.length,e] (t0+t1*(t2+t3*t4)) (t0+t1*t2+t3*t1*t4) rfl
theorem hv_range (y : R) (g : Nat → R) : ∀ n, hv y ((List.range n).map g) = sm (fun i => g i * pw y i) n
 | 0=>rfl
 | n+1=>by
  rw[List.range_succ,List.map_append,List.map_cons,List.map_nil,hv_app,hv_range y g n,List.length_map,List.length_range,mul_comm (pw y n)]
  rfl
end
section
variable {p:Int} [hp:Prm p]
theorem frob_hm {α:Type} [Crg α] (h0:(nc p.toNat:α)=0) (l:Nat):Hm fun a:α=>pw a (p.toNat^l):=⟨fun a b=>frobN h0 a b l,fun a b=>mul_pw a b _,one_pw _⟩
theorem ncT:(nc p.toNat:Pol (Pol (Zp p)))=0:=by rw[nc_C,Pol.nc_p,C_zero]
theorem val_frob (l:Nat) (a:Pol (Zp p)):ev C (pw X (p.toNat^l)) a=pw a (p.toNat^l) :=
 hm_ext (ev_hm C_hm _) (frob_hm Pol.nc_p l) (fun c=>by rw[ev_C C_hm,C_pw,Zp.fermatN]) (ev_X C_hm _) a
theorem val_up {A:Type} [Crg A] (y:Pol A) (a:Pol A):ev (fun c=>c) y (up a)=ev C y a :=
 hm_ext (Hm.comp up_hm (ev_hm Hm.id y)) (ev_hm C_hm y) (fun c=>by rw[up_C,ev_C Hm.id,ev_C C_hm]) (by rw[up_X,ev_X Hm.id,ev_X C_hm]) a
noncomputable abbrev rts (p:Int) [Prm p] (d:Nat):Pol (Pol (Zp p)):=pr (fun i=>X-C (pw X (p.toNat^i))) d
theorem lin_top {A:Type} [Crg A] (c:A):(X-C c:Pol A).len≤2/\(X-C c:Pol A).f 1=1:=by
 refine⟨len_le fun j hj=>?_,?_⟩
 ·show(if j=1 then(1:A)else 0)-(if j=0 then c else 0)=0
  rw[if_neg (by omega),if_neg (by omega),sub_self]
 ·show(if 1=1 then(1:A)else 0)-(if 1=0 then c else 0)=1
  rw[if_pos rfl,if_neg (by omega),sub_zero]
theorem lin_pr {A : Type} [Crg A] (c : Nat → A) : ∀ n, (pr (fun i => (X - C (c i) : Pol A)) n).len ≤ n + 1 ∧ (pr (fun i => (X - C (c i) : Pol A)) n).f n = 1
 | 0=>⟨by show(1:Pol A).len≤1;exact len_mn 1 0,rfl⟩
 | n+1=>by
  obtain⟨h1,h2⟩:=lin_pr c n
  obtain⟨h3,h4⟩:=lin_top (c n)
  refine⟨?_,?_⟩
  ·have:=len_mul_le (pr (fun i=>(X-C (c i):Pol A)) n) (X-C (c n))
   show(pr (fun i=>(X-C (c i):Pol A)) n*(X-C (c n))).len≤_
   omega
  ·show(pr (fun i=>(X-C (c i):Pol A)) n*(X-C (c n))).f (n+1)=1
   rw[top_mul h1 h3,h2,h4,Crg.mul_one]
theorem frob_sub {α:Type} [Crg α] (h0:(nc p.toNat:α)=0) (a b:α) (l:Nat):pw (a-b) (p.toNat^l)=pw a (p.toNat^l)-pw b (p.toNat^l):=(frob_hm h0 l).sub a b
theorem Pol.Irr.of_pw {K : Type} [Fld K] {P a : Pol K} (h : Irr P) : ∀ {n : Nat}, Dvs P (pw a n) → Dvs P a
 | 0,hd=>absurd hd h.not_one
 | _+1,hd=>(h.prime hd).elim (fun k=>Irr.of_pw h k) id
theorem pts_ne {f:Pol (Zp p)} {d:Nat} (hf:Irr f) (hl:f.len=d+1) {a b:Nat} (hab:a<b) (hb:b<d):¬ Dvs f (pw X (p.toNat^b)-pw X (p.toNat^a)):=fun hd=>by
 have e:pw X (p.toNat^b)-pw X (p.toNat^a)=pw (fro p (b-a)) (p.toNat^a):=by
  rw[frob_sub Pol.nc_p,← pw_mul,← Nat.pow_add,show b-a+a=b by omega]
 rw[e]at hd
 have h1:=(irr_dvs_fro hf).1 (hf.of_pw hd)
 have:=Nat.le_of_dvd (by omega) h1
 omega
theorem rts_dvs {f:Pol (Zp p)} {d:Nat} (hf:Irr f) (hl:f.len=d+1) (h1:f.f d=1) (j:Nat):Dvs f ((up f-rts p d).f j):=by
 have g1:(rts p d).len≤d+1:=(lin_pr (fun i=>(pw X (p.toNat^i):Pol (Zp p))) d).1
 have g2:(rts p d).f d=1:=(lin_pr (fun i=>(pw X (p.toNat^i):Pol (Zp p))) d).2
 have hD:∀ j,d≤j->(up f-rts p d).f j=0:=fun j hj=>by
  rw[f_sub,up_f]
  by_cases e:j=d
  ·rw[e,h1]
   show(1:Pol (Zp p))-(rts p d).f d=0
   rw[g2,sub_self]
  ·rw[len_out f j (by omega),C_zero,len_out (rts p d) j (by omega),sub_self]
 have hv0:∀ l,l<d->Dvs f (ev (fun c=>c) (pw X (p.toNat^l)) (up f-rts p d)):=fun l hl=>by
  rw[(ev_hm Hm.id _).sub,val_up,val_frob,(ev_hm Hm.id _).pr,pr_zero hl (by
   rw[(ev_hm Hm.id _).sub,ev_X Hm.id,ev_C Hm.id,sub_self]),sub_zero]
  obtain⟨m,hm⟩:∃ m,p.toNat^l=m+1:=⟨p.toNat^l-1,by have:=Nat.pow_pos (n:=l) (show 0<p.toNat by have:=two_le (p:=p);omega);omega⟩
  rw[hm]
  exact(Dvs.refl f).mul' _
 generalize up f-rts p d=D at *
 refine Classical.byContradiction fun hno=>?_
 have hmax:∃ n,¬ Dvs f (D.f n)/\∀ i,n<i->Dvs f (D.f i):=by
  have key:∀ k i,d≤i+k->¬ Dvs f (D.f i)->∃ n,¬ Dvs f (D.f n)/\∀ i,n<i->Dvs f (D.f i):=by
   intro k
   induction k with
   | zero =>
    intro i hi hn
    exact absurd (by rw[hD i (by omega)];exact Dvs.zero f) hn
   | succ k ih =>
    intro i hi hn
    by_cases hall:∀ i',i<i'->Dvs f (D.f i')
    ·exact⟨i,hn,hall⟩
    ·obtain⟨i',h1⟩:=Classical.not_forall.1 hall
     obtain⟨h2,h3⟩:=Classical.not_imp.1 h1
     exact ih i' (by omega) h3
  exact key d j (by omega) hno
 obtain⟨n,hn,hn2⟩:=hmax
 have hnd:n<d:=by
  rcases Nat.lt_or_ge n d with h | h
  ·exact h
  ·exact absurd (by rw[hD n h];exact Dvs.zero f) hn
 have hev:∀ y,ev (fun c=>c) y D=sm (fun i=>D.f i*pw y i) d:=fun y=>ev_le Hm.id y hD
 have hrt:∀ l,l<d->Dvs f (hv (pw X (p.toNat^l)) ((List.range (n+1)).map D.f)):=fun l hl=>by
  have h2:=hv0 l hl
  rw[hev,show d=n+1+(d-(n+1))by omega,sm_split,Crg.add_comm]at h2
  rw[hv_range]
  refine h2.of_add ?_
  have:∀ m,Dvs f (sm (fun i=>D.f (n+1+i)*pw (pw X (p.toNat^l)) (n+1+i)) m):=by
   intro m
   induction m with
   | zero=>exact Dvs.zero f
   | succ m ih=>exact ih.add ((hn2 (n+1+m) (by omega)).mul _)
  exact this _
 have hr:=roots_le (irr_prime hf) n ((List.range (n+1)).map D.f) ((List.range d).map fun l=>pw X (p.toNat^l)) (D.f n) (by simp) (by rw[List.range_succ,List.map_append];simp) hn (fun y hy=>by
  obtain⟨l,hl,rfl⟩:=List.mem_map.1 hy
  exact hrt l (List.mem_range.1 hl)) (by
  rw[List.pairwise_map]
  refine List.Pairwise.imp_of_mem (R:=fun a b=>a<b) (fun {a b} ha hb hab=>?_) List.pairwise_lt_range
  exact pts_ne hf hl hab (List.mem_range.1 hb))
 rw[List.length_map,List.length_range]at hr
 omega
theorem all_dvs {K : Type} [Fld K] {f : Pol K} : ∀ (n : Nat) (D : Pol (Pol K)), D.len ≤ n → (∀ j, Dvs f (D.f j)) → ∃ E, D = C f * E
 | 0,D,h,_=>⟨0,by rw[mul_zero];exact len_nil (by omega)⟩
 | n+1,D,h,hd=>by
  obtain⟨q,hq⟩:=hd n
  obtain⟨E,hE⟩:=all_dvs n (D-mn (D.f n) n) (len_le fun j hj=>by
   show D.f j-(if j=n then D.f n else 0)=0
   split
   ·rename_i e;rw[e,sub_self]
   ·rw[len_out D j (by omega),sub_self]) fun j=>by
   show Dvs f (D.f j-(if j=n then D.f n else 0))
   split
   ·rename_i e;rw[e,sub_self];exact Dvs.zero f
   ·rw[sub_zero];exact hd j
  refine⟨E+mn q n,?_⟩
  rw[mul_add,← hE,mn_mn,Nat.zero_add,← hq]
  exact RE.eq [D,mn (D.f n) n] t0 (t0-t1+t1) rfl
def Id2 {K:Type} [Crg K] (f P:Pol K) (t:Pol (Pol K)):Prop:=∃ u v,t=u*C f+v*up P
namespace Id2
variable {K:Type} [Crg K] {f P:Pol K}
theorem add {a b:Pol (Pol K)} (h:Id2 f P a) (k:Id2 f P b):Id2 f P (a+b):=by
 obtain⟨u,v,rfl⟩:=h
 obtain⟨w,x,rfl⟩:=k
 exact⟨u+w,v+x,RE.eq [u,v,w,x,C f,up P] (t0*t4+t1*t5+(t2*t4+t3*t5)) ((t0+t2)*t4+(t1+t3)*t5) rfl⟩
theorem mul {a:Pol (Pol K)} (h:Id2 f P a) (c:Pol (Pol K)):Id2 f P (c*a):=by
 obtain⟨u,v,rfl⟩:=h
 exact⟨c*u,c*v,RE.eq [c,u,C f,v,up P] (t0*(t1*t2+t3*t4)) (t0*t1*t2+t0*t3*t4) rfl⟩
theorem neg {a:Pol (Pol K)} (h:Id2 f P a):Id2 f P (-a):=by
 have:=h.mul (-1)
 rwa [neg_mul,one_mul]at this
theorem zero:Id2 f P 0:=⟨0,0,by rw[zero_mul,zero_mul,Crg.add_zero]⟩
theorem trans {a b c:Pol (Pol K)} (h:Id2 f P (a-b)) (k:Id2 f P (b-c)):Id2 f P (a-c):=by
 have:=h.add k
 rwa [show a-b+(b-c)=a-c from RE.eq [a,b,c] (t0-t1+(t1-t2)) (t0-t2) rfl]at this
theorem symm {a b:Pol (Pol K)} (h:Id2 f P (a-b)):Id2 f P (b-a):=by
 have:=h.neg
 rwa [show -(a-b)=b-a from RE.eq [a,b] (-(t0-t1)) (t1-t0) rfl]at this
theorem mulc {a b c d:Pol (Pol K)} (h:Id2 f P (a-b)) (k:Id2 f P (c-d)):Id2 f P (a*c-b*d):=by
 have:=(h.mul c).add (k.mul b)
 rwa [show c*(a-b)+b*(c-d)=a*c-b*d from RE.eq [a,b,c,d] (t2*(t0-t1)+t1*(t2-t3)) (t0*t2-t1*t3) rfl]at this
theorem prc {a b : Nat → Pol (Pol K)} (h : ∀ i, Id2 f P (a i - b i)) : ∀ n, Id2 f P (pr a n - pr b n)
 | 0=>by
  show Id2 f P (1-1)
  rw[sub_self]
  exact zero
 | n+1=>(prc h n).mulc (h n)
theorem pwc {a b : Pol (Pol K)} (h : Id2 f P (a - b)) : ∀ n, Id2 f P (pw a n - pw b n)
 | 0=>by
  show Id2 f P (1-1)
  rw[sub_self]
  exact zero
 | n+1=>(pwc h n).mulc h
theorem of_f {a b:Pol K} (h:Dvs f (a-b)):Id2 f P (C a-C b):=by
 obtain⟨q,hq⟩:=h
 refine⟨C q,0,?_⟩
 rw[zero_mul,Crg.add_zero,C_mul_C,Crg.mul_comm q,← hq]
 exact(C_hm.sub a b).symm
theorem of_P {a b:Pol K} (h:Dvs P (a-b)):Id2 f P (up a-up b):=by
 obtain⟨q,hq⟩:=h
 refine⟨0,up q,?_⟩
 rw[zero_mul,zero_add,← up_hm.sub,hq,up_hm.mul,Crg.mul_comm]
end Id2
theorem Id2.proper {K:Type} [Fld K] {f P:Pol K} {j:Nat} (hf:2≤f.len) (hP:P.len≤j+1) (h1:P.f j=1) (hj:1≤j) {c:K} (h:Id2 f P (C (C c))):c=0:=by
 obtain⟨u,v,e⟩:=h
 have ul:(up P).len≤j+1:=Nat.le_trans (up_len P) hP
 have ut:(up P).f j=1:=by rw[up_f,h1];rfl
 obtain⟨q,r,hq,hr⟩:=div_monic ul ut u.len u (Nat.le_refl _)
 have e2:C (C c)-r*C f=(v+q*C f)*up P:=by
  rw[e,hq]
  exact RE.eq [q,up P,r,C f,v] ((t0*t1+t2)*t3+t4*t1-t2*t3) ((t4+t0*t3)*t1) rfl
 have hz:v+q*C f=0:=Classical.byContradiction fun hne=>by
  have hw:=len_pos hne
  obtain⟨n,hn⟩:∃ n,(v+q*C f).len=n+1:=⟨_,(Nat.sub_add_cancel hw).symm⟩
  have e3:=congrArg (fun a:Pol (Pol K)=>a.f (n+j)) e2
  have e3:(C (C c)-r*C f).f (n+j)=((v+q*C f)*up P).f (n+j):=e3
  rw[top_mul (by omega) ul,ut,Crg.mul_one,f_sub]at e3
  refine len_top _ hn ?_
  rw[← e3]
  have a1:(C (C c):Pol (Pol K)).f (n+j)=0:=if_neg (by omega)
  have a2:(r*C f).f (n+j)=0:=by rw[Crg.mul_comm,C_mul,len_out r _ (by omega),mul_zero]
  rw[a1,a2,sub_self]
 rw[hz,zero_mul]at e2
 have e4:=congrArg (fun a:Pol (Pol K)=>a.f 0) e2
 have e4:(C (C c):Pol (Pol K)).f 0-(r*C f).f 0=0:=e4
 rw[Crg.mul_comm,C_mul]at e4
 have e5:C c=f*r.f 0:=sub_eq_zero.1 e4
 refine Classical.byContradiction fun hc=>?_
 have h2:Dvs f (C c):=⟨_,e5⟩
 have:=h2.len (ne_of_len (by rw[len_C hc];omega))
 rw[len_C hc]at this
 omega
theorem recip0 {f P:Pol (Zp p)} {d j:Nat} (hf:Irr f) (lf:f.len=d+1) (mf:f.f d=1) (hP:Irr P) (lP:P.len=j+1) (mP:P.f j=1):Id2 f P (pw (pw (-1) j) d*pw (up f) (geo p.toNat j)-pw (C P) (geo p.toNat d)):=by
 obtain⟨E,hE⟩:=all_dvs _ _ (Nat.le_refl _) (rts_dvs hf lf mf)
 obtain⟨E2,hE2⟩:=all_dvs _ _ (Nat.le_refl _) (rts_dvs hP lP mP)
 have hE:up f=rts p d+C f*E:=by rw[← hE];exact RE.eq [up f,rts p d] t0 (t1+(t0-t1)) rfl
 have hE2:up P=rts p j+C P*E2:=by rw[← hE2];exact RE.eq [up P,rts p j] t0 (t1+(t0-t1)) rfl
 let M:Nat->Nat->Pol (Pol (Zp p)):=fun l i=>pw X (p.toNat^l)-C (pw X (p.toNat^i))
 have k1:∀ l,Id2 f P (pw (up f) (p.toNat^l)-pr (M l) d):=fun l=>by
  have hh:=ev_hm (C_hm (A:=Pol (Zp p))) (pw X (p.toNat^l))
  have e1:ev C (pw X (p.toNat^l)) (up f)=pw (up f) (p.toNat^l) :=
   hm_ext (Hm.comp up_hm hh) (Hm.comp up_hm (frob_hm ncT l)) (fun c=>by rw[up_C,ev_C C_hm,C_pw,C_pw,Zp.fermatN]) (by rw[up_X,ev_X C_hm]) f
  have e2:=congrArg (ev C (pw X (p.toNat^l))) hE
  rw[e1,hh.add,hh.pr,hh.mul,ev_C C_hm]at e2
  refine⟨ev C (pw X (p.toNat^l)) E,0,?_⟩
  rw[zero_mul,Crg.add_zero,e2,show pr (fun i=>ev C (pw X (p.toNat^l)) (X-C (pw X (p.toNat^i)))) d=pr (M l) d from pr_congr fun i _=>by rw[hh.sub,ev_X C_hm,ev_C C_hm]]
  exact RE.eq [pr (M l) d,C f,ev C (pw X (p.toNat^l)) E] (t0+t1*t2-t0) (t2*t1) rfl
 have k2:∀ i,Id2 f P (pw (C P) (p.toNat^i)-pr (fun l => -1*M l i) j):=fun i=>by
  have hh:=ev_hm (up_hm (A:=Zp p)) (C (pw X (p.toNat^i)))
  have e1:ev up (C (pw X (p.toNat^i))) (up P)=pw (C P) (p.toNat^i) :=
   hm_ext (Hm.comp up_hm hh) (Hm.comp C_hm (frob_hm ncT i)) (fun c=>by rw[up_C,ev_C up_hm,up_C,C_pw,C_pw,Zp.fermatN]) (by rw[up_X,ev_X up_hm,C_pw]) P
  have e2:=congrArg (ev up (C (pw X (p.toNat^i)))) hE2
  rw[e1,hh.add,hh.pr,hh.mul,ev_C up_hm]at e2
  refine⟨0,ev up (C (pw X (p.toNat^i))) E2,?_⟩
  rw[zero_mul,zero_add,e2,show pr (fun l=>ev up (C (pw X (p.toNat^i))) (X-C (pw X (p.toNat^l)))) j=pr (fun l => -1*M l i) j from pr_congr fun l _=>by
   rw[hh.sub,ev_X up_hm,ev_C up_hm,up_hm.pw,up_X]
   exact RE.eq [C (pw X (p.toNat^i)),pw X (p.toNat^l)] (t0-t1) (-1*(t1-t0)) rfl]
  exact RE.eq [pr (fun l => -1*M l i) j,up P,ev up (C (pw X (p.toNat^i))) E2] (t0+t1*t2-t0) (t2*t1) rfl
 have k3:=Id2.prc k1 j
 have k4:=Id2.prc k2 d
 rw[pr_pw,Crg.pr_swap M d j]at k3
 rw[pr_pw]at k4
 have e3:pr (fun i=>pr (fun l => -1*M l i) j) d=pw (pw (-1) j) d*pr (fun i=>pr (fun l=>M l i) j) d:=by
  rw[← pr_const,← pr_mul]
  refine pr_congr fun i _=>?_
  rw[pr_mul,pr_const]
 rw[e3]at k4
 have k5:=(k3.mul (pw (pw (-1) j) d)).add (k4.neg)
 have e4:∀ a b c s:Pol (Pol (Zp p)),s*(a-b) + -(c-s*b)=s*a-c:=fun a b c s=>RE.eq [a,b,c,s] (t3*(t0-t1) + -(t2-t3*t1)) (t3*t0-t2) rfl
 rw[e4]at k5
 exact k5
theorem geo_half {q n:Nat} (hq:q%2=1):geo q n*((q-1) / 2)=(q^n-1) / 2:=by
 have h:=geo_eq q n
 obtain⟨h',hh⟩:∃ h',q-1=2*h':=⟨(q-1) / 2,by omega⟩
 rw[hh,Nat.mul_assoc]at h
 rw[hh,Nat.mul_div_cancel_left _ (by decide),← h,Nat.mul_div_cancel_left _ (by decide),Nat.mul_comm]
theorem m1_ne {K:Type} [Fld K]:(-1:K)≠0:=fun e=>Fld.one_ne (K:=K) (by rw[← neg_neg (1:K),e,neg_zero])
theorem pw_ne {K : Type} [Fld K] {a : K} (h : a ≠ 0) : ∀ n, pw a n ≠ 0
 | 0=>Fld.one_ne
 | n+1=>fun e=>(Fld.domain e).elim (pw_ne h n) h
theorem recip {d j:Nat} (hq:p.toNat%2=1):∃ s:Zp p,s≠0/\∀ {f P:Pol (Zp p)},Irr f->f.len=d+1->f.f d=1->Irr P->P.len=j+1->P.f j=1->∀ {e e':Zp p},Cgr f (pw P ((p.toNat^d-1) / 2)) (C e)->Cgr P (pw f ((p.toNat^j-1) / 2)) (C e')->s*e'=e:=by
 refine⟨pw (pw (pw (-1) j) d) ((p.toNat-1) / 2),pw_ne (pw_ne (pw_ne m1_ne _) _) _,?_⟩
 intro f P hf lf mf hP lP mP e e' h1 h2
 have k:=(recip0 hf lf mf hP lP mP).pwc ((p.toNat-1) / 2)
 rw[mul_pw,← pw_mul (up f),← pw_mul (C P),geo_half hq,geo_half hq]at k
 have a1:Id2 f P (up (pw f ((p.toNat^j-1) / 2))-up (C e')):=Id2.of_P h2
 have a2:Id2 f P (C (pw P ((p.toNat^d-1) / 2))-C (C e)):=Id2.of_f h1
 rw[up_hm.pw,up_C]at a1
 rw[C_hm.pw]at a2
 have a3:=a1.mul (pw (pw (pw (-1) j) d) ((p.toNat-1) / 2))
 rw[show ∀ a b c:Pol (Pol (Zp p)),a*(b-c)=a*b-a*c from fun a b c=>RE.eq [a,b,c] (t0*(t1-t2)) (t0*t1-t0*t2) rfl]at a3
 have k2:=(a3.symm.trans k).trans a2
 have es:(pw (pw (pw (-1) j) d) ((p.toNat-1) / 2):Pol (Pol (Zp p)))=C (C (pw (pw (pw (-1) j) d) ((p.toNat-1) / 2))):=by
  have hc:=CC_hm (A:=Zp p)
  rw[hc.pw,hc.pw,hc.pw,hc.neg]
  rfl
 rw[es,← (CC_hm (A:=Zp p)).mul,← (CC_hm (A:=Zp p)).sub]at k2
 exact sub_eq_zero.1 (Id2.proper hf.two (by omega) mP (by have:=hP.two;omega) k2)
end
end Go.Proofs.YtibaocbpeaejkaaGreat
/- After Stepanov: a product of two irreducible polynomials is not a square at all places of a large field. Plain: no program. -/
namespace Go.Proofs.YtibaocbpeaejkaaGreat
open Crg Pol
theorem pigeon : ∀ (M : Nat) (s : Nat → Nat), (∀ n, n < M + 1 → s n < M) → ∃ a b, a < b ∧ b < M + 1 ∧ s a = s b
 | 0,s,h=>absurd (h 0 (by omega)) (by omega)
 | M+1,s,h=>by
  refine Classical.byContradiction fun hno=>?_
  have inj:∀ i j,i<M+2->j<M+2->s i=s j->i=j:=fun i j hi hj e=>by
   rcases Nat.lt_trichotomy i j with h1 | h1 | h1
   ·exact absurd ⟨i,j,h1,hj,e⟩ hno
   ·exact h1
   ·exact absurd ⟨j,i,h1,hi,e.symm⟩ hno
  have key:∀ i,i<M+1->swp (s (M+1)) M (s i)<M:=fun i hi=>by
   have a:=h i (by omega)
   have c:=h (M+1) (by omega)
   have b:s i≠s (M+1):=fun e=>by have:=inj i (M+1) (by omega) (by omega) e;omega
   unfold swp
   rw[if_neg b]
   split
   ·rename_i e;omega
   ·omega
  obtain⟨a,b,h1,h2,h3⟩:=pigeon M (fun i=>swp (s (M+1)) M (s i)) key
  have e:s a=s b:=by
   have a1:=inj a (M+1) (by omega) (by omega)
   have b1:=inj b (M+1) (by omega) (by omega)
   have h3:swp (s (M+1)) M (s a)=swp (s (M+1)) M (s b):=h3
   unfold swp at h3
   have ea:s a≠s (M+1):=fun e=>by have:=a1 e;omega
   have eb:s b≠s (M+1):=fun e=>by have:=b1 e;omega
   rw[if_neg ea,if_neg eb]at h3
   split at h3 <;> split at h3 <;> omega
  have:=inj a b (by omega) (by omega) e
  omega
theorem pigeon' {M N:Nat} (s:Nat->Nat) (hMN:M<N) (h:∀ n,n<N->s n<M):∃ a b,a<b/\b<N/\s a=s b:=by
 obtain⟨a,b,h1,h2,h3⟩:=pigeon M s fun n hn=>h n (by omega)
 exact⟨a,b,h1,by omega,h3⟩
section
variable {K:Type} [Fld K]
theorem Pol.Cop.pw {a b : Pol K} (h : Cop a b) : ∀ n, Cop a (Crg.pw b n)
 | 0=>⟨0,1,by show 0*a+1*1=1;rw[zero_mul,one_mul,zero_add]⟩
 | n+1=>(Cop.pw h n).mul h
theorem sq_eq {A f : Pol K} {c : K} (hf : Irr f) (h1 : Dvs f A) (h2 : ¬ Dvs (f * f) A) (hA : A ≠ 0) (hc : c ≠ 0) : ∀ (n : Nat) {r s : Pol K}, r.len ≤ n → r * r * A = C c * (s * s) → r = 0 ∧ s = 0
 | 0,r,s,hn,e=>by
  have hr:r=0:=len_nil (by omega)
  refine⟨hr,?_⟩
  rw[hr,zero_mul,zero_mul]at e
  rcases domain e.symm with h | h
  ·exact absurd h (ne_of_len (by rw[len_C hc];omega))
  ·exact(domain h).elim id id
 | n+1,r,s,hn,e=>by
  by_cases hr:r=0
  ·refine⟨hr,?_⟩
   rw[hr,zero_mul,zero_mul]at e
   rcases domain e.symm with h | h
   ·exact absurd h (ne_of_len (by rw[len_C hc];omega))
   ·exact(domain h).elim id id
  obtain⟨A',rfl⟩:=h1
  have hA':¬ Dvs f A':=fun⟨x,hx⟩=>h2 ⟨x,by rw[hx,Crg.mul_assoc]⟩
  have hcn:¬ Dvs f (C c):=fun hd=>by
   have:=hd.len (ne_of_len (by rw[len_C hc];omega))
   have:=hf.two
   rw[len_C hc]at *
   omega
  have d1:Dvs f (C c*(s*s)):=by
   rw[← e]
   exact(Dvs.refl f).mul A' |>.mul' _
  have d2:Dvs f s:=((hf.prime d1).resolve_left hcn) |> fun h=>(hf.prime h).elim id id
  obtain⟨s',rfl⟩:=d2
  have e2:r*r*A'=f*(C c*(s'*s')):=by
   refine cancel hf.ne ?_
   rw[show f*(r*r*A')=r*r*(f*A')from RE.eq [f,r,A'] (t0*(t1*t1*t2)) (t1*t1*(t0*t2)) rfl,e]
   exact RE.eq [f,C c,s'] (t1*(t0*t2*(t0*t2))) (t0*(t0*(t1*(t2*t2)))) rfl
  have d3:Dvs f r:=by
   have:Dvs f (r*r*A'):=by rw[e2];exact(Dvs.refl f).mul _
   exact((hf.prime this).resolve_right hA') |> fun h=>(hf.prime h).elim id id
  obtain⟨r',rfl⟩:=d3
  have hr':r'≠0:=fun h=>hr (by rw[h,mul_zero])
  have hl:=len_mul hf.ne hr'
  have:=hf.two
  have ih:=sq_eq hf ⟨A',rfl⟩ h2 hA hc n (r:=r') (s:=s') (by omega) (by
   refine cancel hf.ne ?_
   rw[show f*(r'*r'*(f*A'))=f*r'*(f*r')*A' from RE.eq [f,r',A'] (t0*(t1*t1*(t0*t2))) (t0*t1*(t0*t1)*t2) rfl,e2])
  exact absurd ih.1 hr'
end
/-! ### The power series of the root -/
section
variable {R:Type} [Crg R]
def cut (g:Nat->R) (n:Nat):Pol R:=⟨fun i=>if i<n then g i else 0,n,fun j hj=>if_neg (by omega)⟩
theorem low_zero {E:Pol R} {l:Nat} (h:∀ e,e<l->E.f e=0):∃ q,E=mn 1 l*q:=by
 refine⟨⟨fun i=>E.f (l+i),E.len,fun j hj=>len_out E _ (by omega)⟩,Pol.ext fun i=>?_⟩
 rw[mn_mul]
 split
 ·show E.f i=1*E.f (l+(i-l))
  rw[one_mul,show l+(i-l)=i by omega]
 ·exact h i (by omega)
end
section
variable {K:Type} [Fld K]
theorem root_series {half : K} (hh : half + half = 1) {D : Nat} {H : Pol (Pol K)} (h0 : H.f 0 = 1) (hb : ∀ e, (H.f e).len ≤ e * D + 1) : ∀ l : Nat, ∃ G : Pol (Pol K), G.f 0 = 1 ∧ (∀ e, (G.f e).len ≤ e * D + 1) ∧ (∀ e, l + 1 ≤ e → G.f e = 0) ∧ ∀ e, e < l + 1 → (G * G).f e = H.f e
 | 0=>by
  refine⟨1,rfl,fun e=>?_,fun e he=>if_neg (by omega),fun e he=>?_⟩
  ·show(if e=0 then(1:Pol K)else 0).len≤_
   split
   ·rw[len_one];omega
   ·rw[len_zero];omega
  ·obtain rfl:e=0:=by omega
   rw[Crg.mul_one,h0]
   rfl
 | l+1=>by
  obtain⟨G,g0,gb,gz,gs⟩:=root_series hh h0 hb l
  let c:Pol K:=C half*(H.f (l+1)-(G*G).f (l+1))
  have sq:(G*G).f (l+1)=cv G.f G.f (l+1):=rfl
  have sql:((G*G).f (l+1)).len≤(l+1)*D+1:=by
   rw[sq]
   unfold cv
   have key:∀ n,n≤l+2->(sm (fun i=>G.f i*G.f (l+1-i)) n).len≤(l+1)*D+1:=by
    intro n
    induction n with
    | zero=>intro _;show(0:Pol K).len≤_;rw[len_zero];omega
    | succ n ih =>
     intro hn
     have h1:=ih (by omega)
     have h2:=len_add (sm (fun i=>G.f i*G.f (l+1-i)) n) (G.f n*G.f (l+1-n))
     have h3:=len_mul_le (G.f n) (G.f (l+1-n))
     have h4:=gb n
     have h5:=gb (l+1-n)
     have h6:n*D+(l+1-n)*D=(l+1)*D:=by rw[← Nat.add_mul,show n+(l+1-n)=l+1 by omega]
     show(sm (fun i=>G.f i*G.f (l+1-i)) n+G.f n*G.f (l+1-n)).len≤_
     omega
   exact key _ (Nat.le_refl _)
  have cl:c.len≤(l+1)*D+1:=by
   have h1:=len_mul_le (C half) (H.f (l+1)-(G*G).f (l+1))
   have h2:=len_sub (H.f (l+1)) ((G*G).f (l+1))
   have h3:=hb (l+1)
   have h4:=len_mn half 0
   show(C half*(H.f (l+1)-(G*G).f (l+1))).len≤_
   have h4:(C half:Pol K).len≤0+1:=h4
   omega
  have c2:c+c=H.f (l+1)-(G*G).f (l+1):=by
   show C half*_+C half*_=_
   rw[← add_mul,← C_add,hh]
   exact one_mul _
  clear_value c
  have exp:(G+mn c (l+1))*(G+mn c (l+1))=G*G+(mn (c+c) (l+1)*G+mn (c*c) (l+1+(l+1))):=by
   rw[← mn_mn,show(mn (c+c) (l+1):Pol (Pol K))=mn c (l+1)+mn c (l+1)from Pol.ext fun i=>by
    show(if i=l+1 then c+c else 0)=(if i=l+1 then c else 0)+if i=l+1 then c else 0
    split
    ·rfl
    ·exact(Crg.add_zero _).symm]
   exact RE.eq [G,mn c (l+1)] ((t0+t1)*(t0+t1)) (t0*t0+((t1+t1)*t0+t1*t1)) rfl
  refine⟨G+mn c (l+1),?_,fun e=>?_,fun e he=>?_,fun e he=>?_⟩
  ·show G.f 0+(if 0=l+1 then c else 0)=1
   rw[if_neg (by omega),Crg.add_zero,g0]
  ·show(G.f e+(if e=l+1 then c else 0)).len≤_
   split
   ·rename_i h;rw[gz e (by omega),zero_add,h];exact cl
   ·rw[Crg.add_zero];exact gb e
  ·show G.f e+(if e=l+1 then c else 0)=0
   rw[if_neg (by omega),gz e (by omega),Crg.add_zero]
  ·rw[exp,f_add,f_add,mn_mul]
   have m0:(mn (c*c) (l+1+(l+1)):Pol (Pol K)).f e=0:=if_neg (by omega)
   rw[m0,Crg.add_zero]
   by_cases h:e=l+1
   ·rw[if_pos (by omega),show e-(l+1)=0 by omega,g0,Crg.mul_one,c2,h]
    exact RE.eq [H.f (l+1),(G*G).f (l+1)] (t1+(t0-t1)) t0 rfl
   ·rw[if_neg (by omega),Crg.add_zero]
    exact gs e (by omega)
end
end Go.Proofs.YtibaocbpeaejkaaGreat
/- After Stepanov, continued: the series' value, and polynomials in two variables of small degrees. Plain: no program. -/
namespace Go.Proofs.YtibaocbpeaejkaaGreat
open Crg Pol
section
variable {K:Type} [Fld K]
theorem len_pw {A : Pol K} {D : Nat} (h : A.len ≤ D + 1) : ∀ n, (pw A n).len ≤ n * D + 1
 | 0=>by show(1:Pol K).len≤_;rw[len_one];omega
 | n+1=>by
  have h1:=len_pw h n
  have h2:=len_mul_le (pw A n) A
  have h3:(n+1)*D=n*D+D:=Nat.succ_mul n D
  show(pw A n*A).len≤_
  omega
theorem ev_id_hm (y:Pol K):Hm (ev (fun c:Pol K=>c) y):=ev_hm Hm.id y
theorem sm_cgr {M : Pol K} {f g : Nat → Pol K} : ∀ {n : Nat}, (∀ i, i < n → Cgr M (f i) (g i)) → Cgr M (sm f n) (sm g n)
 | 0,_=>Cgr.refl _ _
 | _+1,h=>(sm_cgr fun i hi=>h i (by omega)).add (h _ (by omega))
theorem ev_cgr {M y z:Pol K} (h:Cgr M y z) (H:Pol (Pol K)):Cgr M (ev (fun c=>c) y H) (ev (fun c=>c) z H) :=
 sm_cgr fun i _=>(Cgr.refl _ _).mul (h.pw i)
theorem ev_at_zero (H:Pol (Pol K)):ev (fun c=>c) 0 H=H.f 0:=by
 rw[ev_le Hm.id (0:Pol K) (a:=H) (n:=H.len+1) (fun j hj=>len_out H j (by omega)),sm_head]
 show H.f 0*1+_=_
 rw[Crg.mul_one,sm_zero fun i _=>by
  show H.f (i+1)*(pw 0 i*0)=0
  rw[mul_zero,mul_zero],Crg.add_zero]
theorem root_val {half:K} (hh:half+half=1) {D l:Nat} {A g Y u v:Pol K} {H:Pol (Pol K)} (hu:u*A+v*pw Y (l+1)=1) (hA:A.len≤D+1) (hH0:H.f 0=A) (hHb:∀ e,(H.f e).len≤D+1) (hg:g*g*A=ev (fun c=>c) Y H) (hg1:Cgr Y g 1):∃ G:Pol (Pol K),(∀ e,(G.f e).len≤e*D+1)/\(∀ e,l+1≤e->G.f e=0)/\Cgr (pw Y (l+1)) g (ev (fun c=>c) (u*Y) G):=by
 let Hs:Pol (Pol K):=⟨fun e=>if e=0 then 1 else H.f e*pw A (e-1),H.len+1,fun j hj=>by
  rw[if_neg (by omega),len_out H j (by omega),zero_mul]⟩
 have hs0:Hs.f 0=1:=by
  show(if(0:Nat)=0 then(1:Pol K)else H.f 0*pw A (0-1))=1
  rw[if_pos rfl]
 have hs1:∀ e,Hs.f (e+1)=H.f (e+1)*pw A e:=fun e=>by
  show(if e+1=0 then(1:Pol K)else H.f (e+1)*pw A (e+1-1))=_
  rw[if_neg (by omega)]
  rfl
 have hsb:∀ e,(Hs.f e).len≤e*D+1:=fun e=>by
  cases e with
  | zero=>rw[hs0,len_one];omega
  | succ e =>
   rw[hs1]
   have h1:=len_mul_le (H.f (e+1)) (pw A e)
   have h2:=len_pw hA e
   have h3:=hHb (e+1)
   have h4:(e+1)*D=e*D+D:=Nat.succ_mul e D
   omega
 obtain⟨G,g0,gb,gz,gs⟩:=root_series hh hs0 hsb l
 refine⟨G,gb,gz,?_⟩
 obtain⟨M,hM⟩:∃ M,M=pw Y (l+1):=⟨_,rfl⟩
 obtain⟨T,hT⟩:∃ T,T=u*Y:=⟨_,rfl⟩
 obtain⟨γ,hγ⟩:∃ γ,γ=ev (fun c=>c) T G:=⟨_,rfl⟩
 rw[← hM,← hT,← hγ]
 rw[← hM]at hu
 have s1:Cgr M (γ*γ) (ev (fun c=>c) T Hs):=by
  obtain⟨q,hq⟩:=low_zero (E:=G*G-Hs) (l:=l+1) fun e he=>by rw[f_sub,gs e he,sub_self]
  show Dvs M (γ*γ-ev (fun c=>c) T Hs)
  rw[hγ,← (ev_id_hm T).mul,← (ev_id_hm T).sub,hq,(ev_id_hm T).mul,ev_mn Hm.id,one_mul,hT,mul_pw,← hM]
  exact((Dvs.refl M).mul' _).mul _
 have s2:A*ev (fun c=>c) T Hs=ev (fun c=>c) (A*T) H:=by
  rw[ev_le Hm.id T (a:=Hs) (n:=H.len+1) (fun j hj=>by
   show(if j=0 then(1:Pol K)else H.f j*pw A (j-1))=0
   rw[if_neg (by omega),len_out H j (by omega),zero_mul]),ev_le Hm.id (A*T) (a:=H) (n:=H.len+1) (fun j hj=>len_out H j (by omega)),mul_sm]
  refine sm_congr fun i _=>?_
  cases i with
  | zero =>
   show A*(Hs.f 0*1)=H.f 0*1
   rw[hs0,hH0,one_mul]
  | succ i =>
   rw[hs1,mul_pw]
   show A*(H.f (i+1)*pw A i*(pw T i*T))=H.f (i+1)*(pw A i*A*(pw T i*T))
   exact RE.eq [A,H.f (i+1),pw A i,pw T i,T] (t0*(t1*t2*(t3*t4))) (t1*(t2*t0*(t3*t4))) rfl
 have s3:Cgr M (A*T) Y:=⟨-(v*Y),by
  rw[hT]
  have e:A*(u*Y)-Y=(u*A+v*M)*Y-Y-v*M*Y:=RE.eq [A,u,Y,v,M] (t0*(t1*t2)-t2) ((t1*t0+t3*t4)*t2-t2-t3*t4*t2) rfl
  rw[e,hu,one_mul,sub_self]
  exact RE.eq [v,M,Y] (0-t0*t1*t2) (t1 * -(t0*t2)) rfl⟩
 have s4:Cgr M (A*(γ*γ)) (A*(g*g)):=by
  refine((Cgr.refl M A).mul s1).trans ?_
  rw[s2]
  refine(ev_cgr s3 H).trans ?_
  rw[← hg,Crg.mul_comm]
  exact Cgr.refl _ _
 have s5:Dvs M ((γ-g)*(γ+g)):=by
  have h1:Dvs M (A*((γ-g)*(γ+g))):=by
   rw[show A*((γ-g)*(γ+g))=A*(γ*γ)-A*(g*g)from RE.eq [A,γ,g] (t0*((t1-t2)*(t1+t2))) (t0*(t1*t1)-t0*(t2*t2)) rfl]
   exact s4
  exact Cop.dvs (b:=A) (Cop.symm ⟨u,v,hu⟩) h1
 have s6:Cgr Y γ 1:=by
  have h1:Cgr Y T 0:=Cgr.zero.2 (by rw[hT];exact(Dvs.refl Y).mul' u)
  have h2:=ev_cgr h1 G
  rw[ev_at_zero,g0,← hγ]at h2
  exact h2
 have s7:Cop (γ+g) Y:=by
  obtain⟨w,hw⟩:=s6.add hg1
  refine⟨C half,-(C half*w),?_⟩
  have e:C half*(γ+g) + -(C half*w)*Y=C half*(γ+g-(1+1))+(C half+C half)-C half*(Y*w):=RE.eq [C half,γ,g,w,Y] (t0*(t1+t2) + -(t0*t3)*t4) (t0*(t1+t2-(1+1))+(t0+t0)-t0*(t4*t3)) rfl
  rw[e,hw,← C_add,hh]
  exact RE.eq [C half*(Y*w)] (t0+1-t0) 1 rfl
 have s8:Dvs M (γ-g):=by
  rw[hM]at s5 ⊢
  rw[Crg.mul_comm]at s5
  exact(s7.pw _).symm.dvs s5
 exact Cgr.symm s8
def In (M Y:Pol K) (L:Nat) (h:Pol K):Prop:=∃ H:Pol (Pol K),(∀ e,(H.f e).len≤L)/\Cgr M h (ev (fun c=>c) Y H)
namespace In
variable {M Y:Pol K} {L:Nat} {h k:Pol K}
theorem mono {L':Nat} (hL:L≤L') (a:In M Y L h):In M Y L' h:=by
 obtain⟨H,h1,h2⟩:=a
 exact⟨H,fun e=>Nat.le_trans (h1 e) hL,h2⟩
theorem add (a:In M Y L h) (b:In M Y L k):In M Y L (h+k):=by
 obtain⟨H,h1,h2⟩:=a
 obtain⟨H',h3,h4⟩:=b
 refine⟨H+H',fun e=>?_,?_⟩
 ·have:=len_add (H.f e) (H'.f e)
  have:=h1 e
  have:=h3 e
  rw[f_add]
  omega
 ·rw[(ev_id_hm Y).add]
  exact h2.add h4
theorem zero:In M Y L 0:=⟨0,fun e=>by rw[f_zero,len_zero];omega,by rw[(ev_id_hm Y).zero];exact Cgr.refl _ _⟩
theorem mul {s:Nat} {c:Pol K} (hc:c.len≤s+1) (a:In M Y L h):In M Y (L+s) (c*h):=by
 obtain⟨H,h1,h2⟩:=a
 refine⟨C c*H,fun e=>?_,?_⟩
 ·have:=len_mul_le c (H.f e)
  have:=h1 e
  rw[C_mul]
  omega
 ·rw[(ev_id_hm Y).mul,ev_C Hm.id]
  exact(Cgr.refl _ _).mul h2
theorem mulY (a:In M Y L h):In M Y L (Y*h):=by
 obtain⟨H,h1,h2⟩:=a
 refine⟨X*H,fun e=>?_,?_⟩
 ·show((mn 1 1*H:Pol (Pol K)).f e).len≤L
  rw[mn_mul]
  split
  ·rw[one_mul];exact h1 _
  ·rw[len_zero];omega
 ·rw[(ev_id_hm Y).mul,ev_X Hm.id]
  exact(Cgr.refl _ _).mul h2
theorem const {c:Pol K} (hc:c.len≤L):In M Y L c:=⟨C c,fun e=>by
 show(if e=0 then c else 0).len≤L
 split
 ·exact hc
 ·rw[len_zero];omega,by rw[ev_C Hm.id];exact Cgr.refl _ _⟩
end In
theorem len_X:(X:Pol K).len≤2:=len_mn 1 1
theorem In.mulXY {M Y:Pol K} {L:Nat} {h:Pol K} (a:In M Y L h):In M Y (L+1) ((X+Y)*h):=by
 rw[add_mul]
 exact(In.mul (s:=1) len_X a).add ((In.mulY a).mono (by omega))
theorem In.mulXYn {M Y : Pol K} {L : Nat} {h : Pol K} (a : In M Y L h) : ∀ n, In M Y (L + n) (pw (X + Y) n * h)
 | 0=>by
  show In M Y (L+0) (1*h)
  rw[one_mul]
  exact a
 | n+1=>by
  show In M Y (L+n+1) (pw (X+Y) n*(X+Y)*h)
  rw[Crg.mul_comm (pw (X+Y) n),Crg.mul_assoc]
  exact(In.mulXYn a n).mulXY
theorem root_in {D l:Nat} {A g Y u v:Pol K} {G:Pol (Pol K)} (hu:u*A+v*pw Y (l+1)=1) (hA:A.len≤D+1) (gb:∀ e,(G.f e).len≤e*D+1) (gz:∀ e,l+1≤e->G.f e=0) (hg:Cgr (pw Y (l+1)) g (ev (fun c=>c) (u*Y) G)):In (pw Y (l+1)) Y ((l+1)*D+1) (pw A (l+1)*g):=by
 obtain⟨M,hM⟩:∃ M,M=pw Y (l+1):=⟨_,rfl⟩
 rw[← hM]at hu hg ⊢
 have s3:Cgr M (A*(u*Y)) Y:=⟨-(v*Y),by
  have e:A*(u*Y)-Y=(u*A+v*M)*Y-Y-v*M*Y:=RE.eq [A,u,Y,v,M] (t0*(t1*t2)-t2) ((t1*t0+t3*t4)*t2-t2-t3*t4*t2) rfl
  rw[e,hu,one_mul,sub_self]
  exact RE.eq [v,M,Y] (0-t0*t1*t2) (t1 * -(t0*t2)) rfl⟩
 refine⟨cut (fun e=>G.f e*pw A (l+1-e)) (l+1),fun e=>?_,?_⟩
 ·show(if e<l+1 then G.f e*pw A (l+1-e)else 0).len≤_
  split
  ·have h1:=len_mul_le (G.f e) (pw A (l+1-e))
   have h2:=gb e
   have h3:=len_pw hA (l+1-e)
   have h4:e*D+(l+1-e)*D=(l+1)*D:=by rw[← Nat.add_mul,show e+(l+1-e)=l+1 by omega]
   omega
  ·rw[len_zero];omega
 ·refine((Cgr.refl M _).mul hg).trans ?_
  rw[ev_le Hm.id (u*Y) (a:=G) (n:=l+1) gz,ev_le Hm.id Y (n:=l+1) (fun j hj=>if_neg (by omega)),mul_sm]
  refine sm_cgr fun i hi=>?_
  have e1:pw A (l+1)*(G.f i*pw (u*Y) i)=G.f i*pw A (l+1-i)*pw (A*(u*Y)) i:=by
   rw[mul_pw A,show pw A (l+1)=pw A (l+1-i)*pw A i by rw[← pw_add,show l+1-i+i=l+1 by omega]]
   exact RE.eq [pw A (l+1-i),pw A i,G.f i,pw (u*Y) i] (t0*t1*(t2*t3)) (t2*t0*(t1*t3)) rfl
  have e2:(cut (fun e=>G.f e*pw A (l+1-e)) (l+1)).f i=G.f i*pw A (l+1-i):=if_pos hi
  show Cgr M (pw A (l+1)*(G.f i*pw (u*Y) i)) ((cut (fun e=>G.f e*pw A (l+1-e)) (l+1)).f i*pw Y i)
  rw[e1,e2]
  exact(Cgr.refl _ _).mul (s3.pw i)
end
end Go.Proofs.YtibaocbpeaejkaaGreat
/- After Stepanov, the end: a polynomial with a simple irreducible divisor is not a square everywhere on a large field. Plain: no program. -/
namespace Go.Proofs.YtibaocbpeaejkaaGreat
open Crg Pol
section
variable {K:Type} [Fld K]
theorem len_pw_eq {Y : Pol K} (h : Y ≠ 0) : ∀ n, (pw Y n).len = n * (Y.len - 1) + 1 ∧ pw Y n ≠ 0
 | 0=>⟨by show(1:Pol K).len=_;rw[len_one,Nat.zero_mul],Pol.one_ne⟩
 | n+1=>by
  obtain⟨h1,h2⟩:=len_pw_eq h n
  have h3:=len_mul h2 h
  have h4:=len_pos h
  have h5:(n+1)*(Y.len-1)=n*(Y.len-1)+(Y.len-1):=Nat.succ_mul _ _
  refine⟨?_,fun e=>(domain e).elim h2 h⟩
  show(pw Y n*Y).len=_
  omega
theorem dvs_X {a:Pol K} (h:a.f 0=0):Dvs X a:=by
 obtain⟨q,hq⟩:=low_zero (E:=a) (l:=1) fun e he=>by rw[show e=0 by omega];exact h
 exact⟨q,hq⟩
theorem ev_C_zero (Z a:Pol K):Dvs Z (ev C Z a-C (a.f 0)):=by
 refine ind (Q:=fun a=>Dvs Z (ev C Z a-C (a.f 0))) ?_ (fun a b ha hb=>?_) (fun c k=>?_) a
 ·rw[(ev_hm C_hm Z).zero,f_zero,C_zero,sub_self]
  exact Dvs.zero Z
 ·rw[(ev_hm C_hm Z).add,f_add,C_add]
  have:=ha.add hb
  rwa [show ev C Z a-C (a.f 0)+(ev C Z b-C (b.f 0))=ev C Z a+ev C Z b-(C (a.f 0)+C (b.f 0))from RE.eq [ev C Z a,C (a.f 0),ev C Z b,C (b.f 0)] (t0-t1+(t2-t3)) (t0+t2-(t1+t3)) rfl]at this
 ·rw[ev_mn C_hm]
  cases k with
  | zero =>
   show Dvs Z (C c*1-C (if 0=0 then c else 0))
   rw[if_pos rfl,Crg.mul_one,sub_self]
   exact Dvs.zero Z
  | succ k =>
   show Dvs Z (C c*(pw Z k*Z)-C (if 0=k+1 then c else 0))
   rw[if_neg (by omega),C_zero,sub_zero]
   exact((Dvs.refl Z).mul' _).mul' _
theorem zero_all {A f g : Pol K} {Q b : Nat} (hf : Irr f) (f1 : Dvs f A) (f2 : ¬ Dvs (f * f) A) (hA : A ≠ 0) (h0 : A.f 0 ≠ 0) (hg : g * g * A = ev C (mn 1 Q) A) (hQ : 2 * b + A.len ≤ Q + 1) : ∀ (m : Nat) (r s : Nat → Pol K), (∀ i, i < m → (r i).len ≤ b ∧ (s i).len ≤ b) → sm (fun i => (r i + s i * g) * pw (mn 1 Q) i) m = 0 → ∀ i, i < m → r i = 0 ∧ s i = 0
 | 0,_,_,_,_,i,hi=>by omega
 | m+1,r,s,hb,e,i,hi=>by
  obtain⟨Z,hZ⟩:∃ Z:Pol K,Z=mn 1 Q:=⟨_,rfl⟩
  have lZ:Z.len=Q+1:=by
   rw[hZ]
   refine len_eq (fun j hj=>if_neg (by omega)) ?_
   show(if Q=Q then(1:K)else 0)≠0
   rw[if_pos rfl]
   exact Fld.one_ne
  rw[← hZ]at hg e
  obtain⟨S,hS⟩:∃ S,S=sm (fun i=>(r (i+1)+s (i+1)*g)*pw Z i) m:=⟨_,rfl⟩
  have e1:r 0+s 0*g+Z*S=0:=by
   rw[sm_head]at e
   rw[hS,mul_sm,← e]
   congr 1
   ·exact(Crg.mul_one _).symm
   ·refine sm_congr fun j _=>?_
    show Z*((r (j+1)+s (j+1)*g)*pw Z j)=(r (j+1)+s (j+1)*g)*(pw Z j*Z)
    exact RE.eq [Z,r (j+1)+s (j+1)*g,pw Z j] (t0*(t1*t2)) (t1*(t2*t0)) rfl
  have d1:Dvs Z (r 0+s 0*g):=⟨-S,by
   rw[show r 0+s 0*g=(r 0+s 0*g+Z*S)-Z*S from RE.eq [r 0+s 0*g,Z*S] t0 (t0+t1-t1) rfl,e1]
   exact RE.eq [Z,S] (0-t0*t1) (t0 * -t1) rfl⟩
  have d2:Dvs Z (r 0*r 0*A-C (A.f 0)*(s 0*s 0)):=by
   have h1:=d1.mul ((r 0-s 0*g)*A)
   have h2:=(ev_C_zero Z A).mul (s 0*s 0)
   rw[← hg]at h2
   have:=h1.add h2
   rwa [show(r 0+s 0*g)*((r 0-s 0*g)*A)+(g*g*A-C (A.f 0))*(s 0*s 0)=r 0*r 0*A-C (A.f 0)*(s 0*s 0)from RE.eq [r 0,s 0,g,A,C (A.f 0)] ((t0+t1*t2)*((t0-t1*t2)*t3)+(t2*t2*t3-t4)*(t1*t1)) (t0*t0*t3-t4*(t1*t1)) rfl]at this
  obtain⟨b1,b2⟩:=hb 0 (by omega)
  have d3:r 0*r 0*A-C (A.f 0)*(s 0*s 0)=0:=Classical.byContradiction fun hne=>by
   have h1:=d2.len hne
   have h2:=len_sub (r 0*r 0*A) (C (A.f 0)*(s 0*s 0))
   have h3:=len_mul_le (r 0*r 0) A
   have h4:=len_mul_le (r 0) (r 0)
   have h5:=len_mul_le (C (A.f 0)) (s 0*s 0)
   have h6:=len_mul_le (s 0) (s 0)
   have h7:(C (A.f 0):Pol K).len≤0+1:=len_mn _ 0
   have h8:=len_pos hA
   omega
  have z0:=sq_eq hf f1 f2 hA h0 _ (Nat.le_refl _) (sub_eq_zero.1 d3)
  have e2:Z*S=0:=by
   rw[z0.1,z0.2,zero_mul,Crg.add_zero,zero_add]at e1
   exact e1
  have e3:S=0:=(domain e2).resolve_left (ne_of_len (by omega))
  have ih:=zero_all hf f1 f2 hA h0 (hZ ▸ hg) hQ m (fun i=>r (i+1)) (fun i=>s (i+1)) (fun i hi=>hb (i+1) (by omega)) (by rw[← hZ,← hS,e3])
  cases i with
  | zero=>exact z0
  | succ i=>exact ih i (by omega)
theorem cut_len (g:Nat->K) (n:Nat):(cut g n).len≤n:=len_le fun j hj=>if_neg (by omega)
end
section
variable {p:Int} [hp:Prm p]
theorem half_ex (hq:p.toNat%2=1):∃ h:Zp p,h+h=1:=by
 have h2:=two_le (p:=p)
 refine⟨Zp.red ((p.toNat+1) / 2:Nat),?_⟩
 rw[← Zp.red_add,← Zp.red_one]
 refine Zp.red_eq.2 ?_
 have e:(((p.toNat+1) / 2:Nat):Int)+(((p.toNat+1) / 2:Nat):Int)=1+p:=by
  have:=hp.two
  omega
 rw[e,Int.add_emod_right]
noncomputable def tay (A:Pol (Zp p)):Pol (Pol (Zp p)):=ev (fun c=>C (C c)) (C X+X) A
theorem tay_ev (A y:Pol (Zp p)):ev (fun c=>c) y (tay A)=ev C (X+y) A :=
 hm_ext (Hm.comp (ev_hm CC_hm (C X+X)) (ev_id_hm y)) (ev_hm C_hm (X+y)) (fun c=>by rw[ev_C CC_hm,ev_C Hm.id,ev_C C_hm]) (by rw[ev_X CC_hm,(ev_id_hm y).add,ev_C Hm.id,ev_X Hm.id,ev_X C_hm]) A
theorem tay_zero (A:Pol (Zp p)):(tay A).f 0=A:=by
 rw[← ev_at_zero,tay_ev,Crg.add_zero]
 have:=val_frob 0 A
 rwa [Nat.pow_zero,pw_one,pw_one]at this
theorem cx_pw (i:Nat):∀ e,((pw (C X+X:Pol (Pol (Zp p))) i).f e).len≤i+1:=by
 induction i with
 | zero =>
  intro e
  show(if e=0 then(1:Pol (Zp p))else 0).len≤_
  split
  ·rw[len_one];omega
  ·rw[len_zero];omega
 | succ i ih =>
  intro e
  have e1:pw (C X+X:Pol (Pol (Zp p))) (i+1)=C X*pw (C X+X) i+mn 1 1*pw (C X+X) i:=by
   show pw (C X+X) i*(C X+X)=_
   exact RE.eq [pw (C X+X) i,C X,X] (t0*(t1+t2)) (t1*t0+t2*t0) rfl
  rw[e1,f_add,C_mul,mn_mul]
  have h1:=len_mul_le (X:Pol (Zp p)) ((pw (C X+X:Pol (Pol (Zp p))) i).f e)
  have h2:(X:Pol (Zp p)).len≤2:=len_X
  have h3:=ih e
  have h4:(if 1≤e then(1:Pol (Zp p))*(pw (C X+X:Pol (Pol (Zp p))) i).f (e-1)else 0).len≤i+1:=by
   split
   ·rw[one_mul];exact ih _
   ·rw[len_zero];omega
  have h5:=len_add (X*(pw (C X+X:Pol (Pol (Zp p))) i).f e) (if 1≤e then(1:Pol (Zp p))*(pw (C X+X:Pol (Pol (Zp p))) i).f (e-1)else 0)
  omega
theorem tay_bd {A:Pol (Zp p)} {D:Nat} (h:A.len≤D+1) (e:Nat):((tay A).f e).len≤D+1:=by
 unfold tay ev
 have key:∀ n,n≤A.len->((sm (fun i=>C (C (A.f i))*pw (C X+X:Pol (Pol (Zp p))) i) n).f e).len≤D+1:=by
  intro n
  induction n with
  | zero=>intro _;show(0:Pol (Zp p)).len≤_;rw[len_zero];omega
  | succ n ih =>
   intro hn
   have h1:=ih (by omega)
   have h2:=cx_pw (p:=p) n e
   have h3:((C (C (A.f n))*pw (C X+X:Pol (Pol (Zp p))) n).f e).len≤D+1:=by
    rw[C_mul]
    have h4:=len_mul_le (C (A.f n)) ((pw (C X+X:Pol (Pol (Zp p))) n).f e)
    have h5:(C (A.f n):Pol (Zp p)).len≤0+1:=len_mn _ 0
    omega
   have h6:=len_add ((sm (fun i=>C (C (A.f i))*pw (C X+X:Pol (Pol (Zp p))) i) n).f e) ((C (C (A.f n))*pw (C X+X:Pol (Pol (Zp p))) n).f e)
   show((sm (fun i=>C (C (A.f i))*pw (C X+X:Pol (Pol (Zp p))) i) n).f e+(C (C (A.f n))*pw (C X+X:Pol (Pol (Zp p))) n).f e).len≤_
   omega
 exact key _ (Nat.le_refl _)
theorem slice_eq {b N t:Nat} (hb:0<b) (ht:t<N*b):t / b<N/\t / b*b+t%b=t/\t%b<b:=by
 have h1:=Nat.div_add_mod t b
 rw[Nat.mul_comm]at h1
 exact⟨(Nat.div_lt_iff_lt_mul hb).2 ht,h1,Nat.mod_lt t hb⟩
theorem stepanov (hq:p.toNat%2=1) {d k:Nat} (hk:1≤k) (hd:1≤d) {A f:Pol (Zp p)} (lA:A.len≤2*d+1) (hf:Irr f) (f1:Dvs f A) (f2:¬ Dvs (f*f) A) (hA:A≠0) (h1:Cgr (fro p k) (pw A ((p.toNat^k-1) / 2)) 1) (hQ:36*(d*d)+14*d+2≤p.toNat^k):False:=by
 have h2:=two_le (p:=p)
 obtain⟨half,hh⟩:=half_ex hq
 have lY:=fro_len (p:=p) hk
 have hY0:fro p k≠0:=ne_of_len (by omega)
 have hodd:p.toNat^k%2=1:=by
  rw[Nat.pow_mod,hq,Nat.one_pow]
 have hXY:(mn 1 (p.toNat^k):Pol (Zp p))=X+fro p k:=by
  rw[← pw_X]
  exact RE.eq [pw X (p.toNat^k),X] t0 (t1+(t0-t1)) rfl
 have hgA:pw A ((p.toNat^k-1) / 2)*pw A ((p.toNat^k-1) / 2)*A=ev C (mn 1 (p.toNat^k)) A:=by
  rw[← pw_X,val_frob,← pw_add]
  show pw A ((p.toNat^k-1) / 2+(p.toNat^k-1) / 2+1)=_
  rw[show(p.toNat^k-1) / 2+(p.toNat^k-1) / 2+1=p.toNat^k by omega]
 have lg:=len_pw lA ((p.toNat^k-1) / 2)
 have copA:Cop A (fro p k):=by
  obtain⟨w,hw⟩:=h1
  obtain⟨m,hm⟩:∃ m,(p.toNat^k-1) / 2=m+1:=⟨(p.toNat^k-1) / 2-1,by omega⟩
  rw[hm]at hw
  refine⟨pw A m,-w,?_⟩
  have hw:pw A m*A-1=fro p k*w:=hw
  rw[show pw A m*A + -w*fro p k=pw A m*A-1-fro p k*w+1 from RE.eq [pw A m,A,w,fro p k] (t0*t1 + -t2*t3) (t0*t1-1-t3*t2+1) rfl,hw]
  exact RE.eq [fro p k*w] (t0-t0+1) 1 rfl
 have hA0:A.f 0≠0:=fun e=>by
  have a1:=dvs_X e
  have a2:Dvs X (fro p k):=by
   refine dvs_X ?_
   show(pw X (p.toNat^k)).f 0-(X:Pol (Zp p)).f 0=0
   rw[pw_X]
   show(if 0=p.toNat^k then(1:Zp p)else 0)-(if 0=1 then 1 else 0)=0
   rw[if_neg (by omega),if_neg (by omega),sub_self]
  obtain⟨u,v,huv⟩:=copA
  have a3:Dvs X (1:Pol (Zp p)):=by
   rw[← huv]
   exact(a1.mul' u).add (a2.mul' v)
  have a4:=a3.len Pol.one_ne
  rw[len_one]at a4
  have a5:(X:Pol (Zp p)).len=1+1:=len_eq (fun j hj=>if_neg (by omega)) (by show(if 1=1 then(1:Zp p)else 0)≠0;rw[if_pos rfl];exact Fld.one_ne)
  omega
 have hg2:pw A ((p.toNat^k-1) / 2)*pw A ((p.toNat^k-1) / 2)*A=ev (fun c=>c) (fro p k) (tay A):=by rw[hgA,tay_ev,← hXY]
 generalize pw A ((p.toNat^k-1) / 2)=g at *
 generalize fro p k=Y at *
 generalize p.toNat^k=Q at *
 obtain⟨l,hl⟩:∃ l,3*d=l+1:=⟨3*d-1,by omega⟩
 obtain⟨u,v,huv⟩:=copA.pw (l+1)
 obtain⟨G,gb,gz,gc⟩:=root_val hh huv lA (tay_zero A) (tay_bd lA) hg2 h1
 have i1:=root_in huv lA gb gz gc
 have i0:In (pw Y (l+1)) Y ((l+1)*(2*d)+1) (pw A (l+1)):=In.const (len_pw lA _)
 obtain⟨M,hM⟩:∃ M,M=pw Y (l+1):=⟨_,rfl⟩
 rw[← hM]at i1 i0
 obtain⟨b,hb⟩:∃ b,b=18*(d*d)+6*d+1:=⟨_,rfl⟩
 obtain⟨L,hL⟩:∃ L,L=(l+1)*(2*d)+1+(b-1)+2*d:=⟨_,rfl⟩
 let sl:Pol (Zp p)->Nat->Pol (Zp p):=fun W t=>cut (fun j=>W.f (t*b+j)) b
 let R:Pol (Zp p)->Nat->Pol (Zp p):=fun W n=>sm (fun i=>(sl W (2*i)+sl W (2*i+1)*g)*pw (mn 1 Q) i) n
 have hin:∀ W n,n≤2*d->In M Y L (pw A (l+1)*R W n):=by
  intro W n
  induction n with
  | zero =>
   intro _
   show In M Y L (pw A (l+1)*0)
   rw[mul_zero]
   exact In.zero
  | succ n ih =>
   intro hn
   have e1:pw A (l+1)*R W (n+1)=pw A (l+1)*R W n+pw (X+Y) n*(sl W (2*n)*pw A (l+1)+sl W (2*n+1)*(pw A (l+1)*g)):=by
    show pw A (l+1)*(R W n+(sl W (2*n)+sl W (2*n+1)*g)*pw (mn 1 Q) n)=_
    rw[hXY]
    exact RE.eq [pw A (l+1),R W n,sl W (2*n),sl W (2*n+1),g,pw (X+Y) n] (t0*(t1+(t2+t3*t4)*t5)) (t0*t1+t5*(t2*t0+t3*(t0*t4))) rfl
   rw[e1]
   refine(ih (by omega)).add ?_
   have c1:(sl W (2*n)).len≤b-1+1:=by have:=cut_len (fun j=>W.f (2*n*b+j)) b;show(cut _ b).len≤_;omega
   have c2:(sl W (2*n+1)).len≤b-1+1:=by have:=cut_len (fun j=>W.f ((2*n+1)*b+j)) b;show(cut _ b).len≤_;omega
   exact(((In.mul c1 i0).add (In.mul c2 i1)).mulXYn n).mono (by omega)
 have hLl:(l+1)*L<4*d*b:=by
  rw[← hl]at hL ⊢
  have e1:3*d*L=3*d*(3*d*(2*d)+2*d+b):=by rw[hL];congr 1;omega
  have e2:3*d*(3*d*(2*d)+2*d+b)=3*(d*(6*(d*d)+2*d))+3*(d*b):=by
   have:3*d*(2*d)=6*(d*d):=by rw[Nat.mul_mul_mul_comm]
   rw[this,Nat.mul_assoc,Nat.mul_add d]
   omega
  have e3:4*d*b=3*(d*b)+d*b:=by rw[Nat.mul_assoc];omega
  have e4:3*(d*(6*(d*d)+2*d))<d*b:=by
   have:3*(d*(6*(d*d)+2*d))=d*(18*(d*d)+6*d):=by
    rw[show 18*(d*d)+6*d=3*(6*(d*d)+2*d)by omega,Nat.mul_left_comm]
   rw[this]
   exact Nat.mul_lt_mul_of_pos_left (by omega) (by omega)
  omega
 have hL0:0<L:=by omega
 let HW:Pol (Zp p)->Pol (Pol (Zp p)):=fun W=>(hin W (2*d) (Nat.le_refl _)).choose
 have HW1:∀ W e,((HW W).f e).len≤L:=fun W=>(hin W (2*d) (Nat.le_refl _)).choose_spec.1
 have HW2:∀ W,Cgr M (pw A (l+1)*R W (2*d)) (ev (fun c=>c) Y (HW W)):=fun W=>(hin W (2*d) (Nat.le_refl _)).choose_spec.2
 let ZW:Pol (Zp p)->Pol (Zp p):=fun W=>cut (fun t=>((HW W).f (t / L)).f (t%L)) ((l+1)*L)
 obtain⟨n1,n2,a1,a2,a3⟩:=pigeon' (M:=p.toNat^((l+1)*L)) (N:=p.toNat^(4*d*b)) (fun n=>cdp (ZW (dgp p n)) ((l+1)*L)) (Nat.pow_lt_pow_right (by omega) hLl) fun n _=>cdp_lt _ _
 have a3:cdp (ZW (dgp p n1)) ((l+1)*L)=cdp (ZW (dgp p n2)) ((l+1)*L):=a3
 have zz:ZW (dgp p n1)=ZW (dgp p n2):=by
  have z1:dgp p (cdp (ZW (dgp p n1)) ((l+1)*L))=ZW (dgp p n1):=dgp_cdp (cut_len _ _)
  have z2:dgp p (cdp (ZW (dgp p n2)) ((l+1)*L))=ZW (dgp p n2):=dgp_cdp (cut_len _ _)
  rw[← z1,← z2,a3]
 have hH:∀ e,e<l+1->(HW (dgp p n1)).f e=(HW (dgp p n2)).f e:=fun e he=>Pol.ext fun j=>by
  rcases Nat.lt_or_ge j L with hj | hj
  ·have ht:e*L+j<(l+1)*L:=by
    have:=Nat.mul_le_mul_right L (show e+1≤l+1 from he)
    rw[Nat.succ_mul]at this
    omega
   have e1:=congrArg (fun a:Pol (Zp p)=>a.f (e*L+j)) zz
   have e1:(if e*L+j<(l+1)*L then((HW (dgp p n1)).f ((e*L+j) / L)).f ((e*L+j)%L)else 0)=if e*L+j<(l+1)*L then((HW (dgp p n2)).f ((e*L+j) / L)).f ((e*L+j)%L)else 0:=e1
   rw[if_pos ht,if_pos ht,Nat.mul_comm e L,Nat.mul_add_div hL0,Nat.div_eq_of_lt hj,Nat.add_zero,Nat.mul_add_mod,Nat.mod_eq_of_lt hj]at e1
   exact e1
  ·rw[len_out _ j (Nat.le_trans (HW1 _ e) hj),len_out _ j (Nat.le_trans (HW1 _ e) hj)]
 have c1:Cgr M (ev (fun c=>c) Y (HW (dgp p n1))) (ev (fun c=>c) Y (HW (dgp p n2))):=by
  obtain⟨q,hq'⟩:=low_zero (E:=HW (dgp p n1)-HW (dgp p n2)) (l:=l+1) fun e he=>by rw[f_sub,hH e he,sub_self]
  show Dvs M (_-_)
  rw[← (ev_id_hm Y).sub,hq',(ev_id_hm Y).mul,ev_mn Hm.id,one_mul,← hM]
  exact(Dvs.refl M).mul _
 have c2:Dvs M (pw A (l+1)*(R (dgp p n1) (2*d)-R (dgp p n2) (2*d))):=by
  have:=((HW2 (dgp p n1)).trans c1).trans (HW2 (dgp p n2)).symm
  rw[show pw A (l+1)*(R (dgp p n1) (2*d)-R (dgp p n2) (2*d))=pw A (l+1)*R (dgp p n1) (2*d)-pw A (l+1)*R (dgp p n2) (2*d)from RE.eq [pw A (l+1),R (dgp p n1) (2*d),R (dgp p n2) (2*d)] (t0*(t1-t2)) (t0*t1-t0*t2) rfl]
  exact this
 have c3:Dvs M (R (dgp p n1) (2*d)-R (dgp p n2) (2*d)):=by
  have cm:Cop M A:=by
   rw[hM]
   exact Cop.symm ⟨u,v,huv⟩
  exact(cm.pw _).dvs c2
 obtain⟨W,hW⟩:∃ W,W=dgp p n1-dgp p n2:=⟨_,rfl⟩
 have slw:∀ t,sl W t=sl (dgp p n1) t-sl (dgp p n2) t:=fun t=>Pol.ext fun j=>by
  show(if j<b then W.f (t*b+j)else 0)=(if j<b then(dgp p n1).f (t*b+j)else 0)-if j<b then(dgp p n2).f (t*b+j)else 0
  rw[hW]
  split
  ·rfl
  ·exact(sub_self _).symm
 have hRW:∀ n,R W n=R (dgp p n1) n-R (dgp p n2) n:=by
  intro n
  induction n with
  | zero=>exact(sub_self (0:Pol (Zp p))).symm
  | succ n ih =>
   show R W n+(sl W (2*n)+sl W (2*n+1)*g)*pw (mn 1 Q) n=R (dgp p n1) n+(sl (dgp p n1) (2*n)+sl (dgp p n1) (2*n+1)*g)*pw (mn 1 Q) n-(R (dgp p n2) n+(sl (dgp p n2) (2*n)+sl (dgp p n2) (2*n+1)*g)*pw (mn 1 Q) n)
   rw[ih,slw,slw]
   generalize (pw (mn 1 Q) n:Pol (Zp p))=z
   generalize R (dgp p n1) n=x1
   generalize R (dgp p n2) n=x2
   have key:∀ y1 y2 w1 w2:Pol (Zp p),x1-x2+(y1-y2+(w1-w2)*g)*z=x1+(y1+w1*g)*z-(x2+(y2+w2*g)*z):=fun y1 y2 w1 w2=>RE.eq [x1,x2,y1,y2,w1,w2,g,z] (t0-t1+(t2-t3+(t4-t5)*t6)*t7) (t0+(t2+t4*t6)*t7-(t1+(t3+t5*t6)*t7)) rfl
   exact key _ _ _ _
 rw[← hRW]at c3
 have lM:M.len=3*d*Q+1:=by
  rw[hM,(len_pw_eq hY0 (l+1)).1,lY,hl,Nat.add_sub_cancel]
 have lR:∀ n,(R W (n+1)).len≤b+(Q-1) / 2*(2*d)+n*Q:=by
  intro n
  have step:∀ n,((sl W (2*n)+sl W (2*n+1)*g)*pw (mn 1 Q) n).len≤b+(Q-1) / 2*(2*d)+n*Q:=fun n=>by
   have c1:(sl W (2*n)).len≤b:=cut_len (fun j=>W.f (2*n*b+j)) b
   have c2:(sl W (2*n+1)).len≤b:=cut_len (fun j=>W.f ((2*n+1)*b+j)) b
   have c3:=len_mul_le (sl W (2*n+1)) g
   have c4:=len_add (sl W (2*n)) (sl W (2*n+1)*g)
   have c5:=len_mul_le (sl W (2*n)+sl W (2*n+1)*g) (pw (mn 1 Q) n)
   have c6:=len_pw (len_mn (1:Zp p) Q) n
   omega
  induction n with
  | zero =>
   have:=len_add (R W 0) ((sl W (2*0)+sl W (2*0+1)*g)*pw (mn 1 Q) 0)
   have h3:=step 0
   have h4:(R W 0).len=0:=len_zero
   show(R W 0+(sl W (2*0)+sl W (2*0+1)*g)*pw (mn 1 Q) 0).len≤_
   omega
  | succ n ih =>
   have:=len_add (R W (n+1)) ((sl W (2*(n+1))+sl W (2*(n+1)+1)*g)*pw (mn 1 Q) (n+1))
   have h3:=step (n+1)
   have h5:(n+1)*Q=n*Q+Q:=Nat.succ_mul n Q
   show(R W (n+1)+(sl W (2*(n+1))+sl W (2*(n+1)+1)*g)*pw (mn 1 Q) (n+1)).len≤_
   omega
 have hR0:R W (2*d)=0:=Classical.byContradiction fun hne=>by
  have e1:=c3.len hne
  obtain⟨n,hn⟩:∃ n,2*d=n+1:=⟨2*d-1,by omega⟩
  have e2:=lR n
  rw[← hn]at e2
  have e3:(Q-1) / 2*(2*d)+d≤d*Q:=by
   have:((Q-1) / 2*2+1)*d≤Q*d:=Nat.mul_le_mul_right d (by omega)
   rw[Nat.add_mul,Nat.one_mul,Nat.mul_assoc,Nat.mul_comm Q d]at this
   exact this
  have e4:n*Q+Q=2*(d*Q):=by
   rw[← Nat.succ_mul,Nat.succ_eq_add_one,← hn,Nat.mul_assoc]
  have e5:3*d*Q=3*(d*Q):=Nat.mul_assoc 3 d Q
  omega
 have hall:=zero_all hf f1 f2 hA hA0 hgA (b:=b) (by omega) (2*d) (fun i=>sl W (2*i)) (fun i=>sl W (2*i+1)) (fun i _=>⟨cut_len _ _,cut_len _ _⟩) hR0
 have hsl:∀ t,t<4*d->sl W t=0:=fun t ht=>by
  have h3:=hall (t / 2) (by omega)
  rcases Nat.mod_two_eq_zero_or_one t with e | e
  ·have:=h3.1
   rwa [show 2*(t / 2)=t by omega]at this
  ·have:=h3.2
   rwa [show 2*(t / 2)+1=t by omega]at this
 have hW0:W=0:=Pol.ext fun t=>by
  rcases Nat.lt_or_ge t (4*d*b)with ht | ht
  ·obtain⟨e1,e2,e3⟩:=slice_eq (b:=b) (by omega) ht
   have e4:=congrArg (fun a:Pol (Zp p)=>a.f (t%b)) (hsl _ e1)
   have e4:(if t%b<b then W.f (t / b*b+t%b)else 0)=0:=e4
   rw[if_pos e3,e2]at e4
   exact e4
  ·have l1:=dgp_len (p:=p) (show n1<p.toNat^(4*d*b)by omega)
   have l2:=dgp_len (p:=p) a2
   rw[hW,f_sub,len_out _ t (by omega),len_out _ t (by omega),sub_self]
   rfl
 have:=dgp_inj (p:=p) (show n1<p.toNat^(4*d*b)by omega) a2 (sub_eq_zero.1 (hW ▸ hW0))
 omega
end
end Go.Proofs.YtibaocbpeaejkaaGreat
/- Where irreducible divisors of one degree are parted: a trial polynomial with a small number. Plain: no program. -/
namespace Go.Proofs.YtibaocbpeaejkaaGreat
open Crg Pol
section
variable {K:Type} [Fld K]
theorem monic_of {P:Pol K} (h:P≠0):∃ M:Pol K,M.len=P.len/\M.lead=1/\Dvs M P/\Dvs P M:=by
 have hl:=lead_ne h
 have hi:Fld.inv P.lead≠0:=fun e=>by
  have:=Fld.mul_inv _ hl
  rw[e,mul_zero]at this
  exact Fld.one_ne this.symm
 have hc:(C (Fld.inv P.lead):Pol K)≠0:=ne_of_len (by rw[len_C hi];omega)
 have hlen:(C (Fld.inv P.lead)*P).len=P.len:=by
  have:=len_mul hc h
  rw[len_C hi]at this
  omega
 refine⟨C (Fld.inv P.lead)*P,hlen,?_,⟨C P.lead,?_⟩,(Dvs.refl P).mul' _⟩
 ·show(C (Fld.inv P.lead)*P).f ((C (Fld.inv P.lead)*P).len-1)=1
  rw[hlen,C_mul]
  show Fld.inv P.lead*P.lead=1
  rw[Crg.mul_comm,Fld.mul_inv _ hl]
 ·rw[show C (Fld.inv P.lead)*P*C P.lead=C P.lead*C (Fld.inv P.lead)*P from RE.eq [C (Fld.inv P.lead),P,C P.lead] (t0*t1*t2) (t2*t0*t1) rfl,C_mul_C,Fld.mul_inv _ hl]
  exact(one_mul P).symm
theorem Pol.Irr.assoc {P M:Pol K} (h:Irr P) (h1:Dvs M P) (_:Dvs P M) (hl:M.len=P.len):Irr M:=by
 refine⟨by rw[hl];exact h.two,fun a b e=>?_⟩
 obtain⟨x,hx⟩:=h1
 have hM:M≠0:=fun e=>h.ne (by rw[hx,e,zero_mul])
 have hx0:x≠0:=fun e=>h.ne (by rw[hx,e,mul_zero])
 have ha:a≠0:=fun e'=>hM (by rw[e,e',zero_mul])
 have hb:b≠0:=fun e'=>hM (by rw[e,e',mul_zero])
 have l1:=len_mul hM hx0
 rw[← hx]at l1
 have hbx:b*x≠0:=fun e'=>(domain e').elim hb hx0
 have l2:=len_mul hb hx0
 rcases h.irr a (b*x) (by rw[hx,e,Crg.mul_assoc])with h3 | h3
 ·exact .inl h3
 ·exact .inr (by omega)
theorem Pol.Irr.eq {P M:Pol K} (hP:Irr P) (hM:Irr M) (lP:P.lead=1) (lM:M.lead=1) (h:Dvs P M):P=M:=by
 obtain⟨x,hx⟩:=h
 rcases hM.irr P x hx with h1 | h1
 ·have:=hP.two;omega
 ·have e:=eq_C (a:=x) (by omega)
  have hx0:x≠0:=ne_of_len (by omega)
  have h2:=lead_mul hP.ne hx0
  rw[← hx,lM,lP,one_mul]at h2
  have h3:x.lead=x.f 0:=by unfold lead;rw[h1]
  rw[hx,e,← h3,← h2]
  exact(Crg.mul_one P).symm
theorem lead_f {P:Pol K} {d:Nat} (h:P.len=d+1):P.f d=P.lead:=by unfold lead;rw[h,Nat.add_sub_cancel]
end
section
variable {p:Int} [hp:Prm p]
theorem sign_ex {f a:Pol (Zp p)} (hq:p.toNat%2=1) (hf:Irr f) (ha:¬ Dvs f a):∃ e:Zp p,(e=1∨e = -1)/\Cgr f (pw a ((p.toNat^(f.len-1)-1) / 2)) (C e):=by
 have h:=fermat_irr hf a
 have hodd:p.toNat^(f.len-1)%2=1:=by rw[Nat.pow_mod,hq,Nat.one_pow]
 generalize p.toNat^(f.len-1)=Q at *
 obtain⟨x,hx⟩:∃ x,x=pw a ((Q-1) / 2):=⟨_,rfl⟩
 have e:pw a Q-a=a*((x-1)*(x+1)):=by
  rw[show Q=(Q-1) / 2+(Q-1) / 2+1 by omega]
  show pw a ((Q-1) / 2+(Q-1) / 2)*a-a=_
  rw[pw_add,← hx]
  exact RE.eq [x,a] (t0*t0*t1-t1) (t1*((t0-1)*(t0+1))) rfl
 have h:Dvs f (pw a Q-a):=h
 rw[e]at h
 rw[← hx]
 rcases hf.prime ((hf.prime h).resolve_left ha)with h1 | h1
 ·exact⟨1,.inl rfl,h1⟩
 ·refine⟨-1,.inr rfl,?_⟩
  show Dvs f (x-C (-1))
  rw[C_hm.neg]
  show Dvs f (x - -1)
  rwa [show x - -1=x+1 from RE.eq [x] (t0 - -1) (t0+1) rfl]
theorem two_ne (hq:p.toNat%2=1):(1:Zp p) ≠ -1:=fun e=>by
 obtain⟨h,hh⟩:=half_ex hq
 have h1:(1:Zp p)+1=0:=by
  have:=congrArg (fun a:Zp p=>a+1) e
  rw[Crg.neg_add]at this
  exact this
 have h2:(1:Zp p)=0:=by
  rw[← hh,← Crg.mul_one h,← mul_add,h1,mul_zero]
 exact Fld.one_ne h2
theorem C_cgr {f:Pol (Zp p)} (hf:Irr f) {a b:Zp p} (h:Cgr f (C a) (C b)):a=b:=by
 refine sub_eq_zero.1 (Classical.byContradiction fun hne=>?_)
 have h:Dvs f (C a-C b):=h
 rw[← C_hm.sub]at h
 have:=h.len (ne_of_len (by rw[len_C hne];omega))
 have:=hf.two
 rw[len_C hne]at *
 omega
def Splits (f h:Pol (Zp p)):Prop:=∃ P S,Irr P/\Irr S/\Dvs P f/\Dvs S f/\Dvs P h/\¬ Dvs S h
theorem cdp_top {P:Pol (Zp p)} {d:Nat} (h:P.len=d+1):p.toNat^d≤cdp P (d+1):=by
 have h1:=len_top P h
 have h2:(P.f d).v.toNat≠0:=fun e=>h1 (Zp.v_zero.1 (by have:=(P.f d).r;omega))
 show _≤cdp P d+(P.f d).v.toNat*p.toNat^d
 have:=Nat.mul_le_mul_right (p.toNat^d) (show 1≤(P.f d).v.toNat by omega)
 omega
theorem cdp_monic {P:Pol (Zp p)} {d:Nat} (h:P.f d=1):cdp P (d+1)<2*p.toNat^d:=by
 have h1:(P.f d).v.toNat=1:=by
  rw[h]
  show(1%p).toNat=1
  rw[Int.emod_eq_of_lt (by omega) (by have:=hp.two;omega)]
  rfl
 have:=cdp_lt P d
 show cdp P d+(P.f d).v.toNat*p.toNat^d<_
 rw[h1]
 omega
theorem part_odd (hq:p.toNat%2=1) {d k:Nat} (hk:1≤k) (hkd:k<d) (hQ:36*(d*d)+14*d+2≤p.toNat^k) {f f1 f2:Pol (Zp p)} (i1:Irr f1) (i2:Irr f2) (m1:f1.lead=1) (m2:f2.lead=1) (l1:f1.len=d+1) (l2:f2.len=d+1) (hne:f1≠f2) (d1:Dvs f1 f) (d2:Dvs f2 f):∃ n,p.toNat≤n/\n<p.toNat^(k+1)/\Splits f (pw (dgp p n) ((p.toNat^d-1) / 2)-1):=by
 have h2:=two_le (p:=p)
 refine Classical.byContradiction fun hno=>?_
 have hns:∀ n,p.toNat≤n->n<p.toNat^(k+1)->¬ Splits f (pw (dgp p n) ((p.toNat^d-1) / 2)-1):=fun n a b c=>hno ⟨n,a,b,c⟩
 have hlk:=fro_len (p:=p) hk
 have hA:f1*f2≠0:=fun e=>(domain e).elim i1.ne i2.ne
 refine stepanov hq hk (d:=d) (by omega) (A:=f1*f2) (f:=f1) (by have:=len_mul i1.ne i2.ne;omega) i1 ⟨f2,rfl⟩ (fun⟨x,hx⟩=>hne ?_) hA ?_ hQ
 ·refine i1.eq i2 m1 m2 ⟨x,?_⟩
  rw[Crg.mul_assoc]at hx
  exact cancel i1.ne hx
 ·refine Sqf.dvs _ (Nat.le_refl _) (ne_of_len (by omega)) (fro_sqf hk) fun P0 hP0 hPd=>?_
  obtain⟨P,lP,mP,g1,g2⟩:=monic_of hP0.ne
  have iP:=hP0.assoc g1 g2 lP
  have ht:=iP.two
  refine g2.trans ?_
  have hjk:=(irr_dvs_fro iP).1 (g1.trans hPd)
  obtain⟨j,hj⟩:∃ j,P.len=j+1:=⟨P.len-1,by omega⟩
  rw[hj,Nat.add_sub_cancel]at hjk
  have hj1:1≤j:=by omega
  have hjle:j≤k:=Nat.le_of_dvd (by omega) hjk
  have hn1:=cdp_top hj
  have hn2:=cdp_lt P (j+1)
  have hdg:dgp p (cdp P (j+1))=P:=dgp_cdp (by omega)
  have hpj:p.toNat≤p.toNat^j:=by
   have:=Nat.pow_le_pow_right (n:=p.toNat) (by omega) hj1
   rwa [Nat.pow_one]at this
  have hpk:p.toNat^(j+1)≤p.toNat^(k+1):=Nat.pow_le_pow_right (by omega) (by omega)
  have hs:=hns (cdp P (j+1)) (by omega) (by omega)
  rw[hdg]at hs
  have nd:∀ {g:Pol (Zp p)},Irr g->g.len=d+1->¬ Dvs g P:=fun hg hl hd=>by
   have:=hd.len iP.ne
   omega
  have ndr:∀ {g:Pol (Zp p)},Irr g->g.lead=1->g.len=d+1->¬ Dvs P g:=fun hg mg hl hd=>by
   have:=iP.eq hg mP mg hd
   rw[this]at hj
   omega
  obtain⟨e1,c1,s1⟩:=sign_ex hq i1 (nd i1 l1)
  obtain⟨e2,c2,s2⟩:=sign_ex hq i2 (nd i2 l2)
  rw[l1,Nat.add_sub_cancel]at s1
  rw[l2,Nat.add_sub_cancel]at s2
  have he:e1=e2:=by
   have key:∀ {g g':Pol (Zp p)} {e e':Zp p},Irr g->Irr g'->Dvs g f->Dvs g' f->Cgr g (pw P ((p.toNat^d-1) / 2)) (C e)->Cgr g' (pw P ((p.toNat^d-1) / 2)) (C e')->e=1->e' = -1->False:=fun hg hg' dg dg' sg sg' h1 h1'=>by
    subst h1 h1'
    exact hs ⟨_,_,hg,hg',dg,dg',sg,fun h=>two_ne hq (C_cgr hg' ((Cgr.symm h).trans sg'))⟩
   rcases c1 with h1 | h1 <;> rcases c2 with h3 | h3
   ·rw[h1,h3]
   ·exact(key i1 i2 d1 d2 s1 s2 h1 h3).elim
   ·exact(key i2 i1 d2 d1 s2 s1 h3 h1).elim
   ·rw[h1,h3]
  obtain⟨e1',c1',s1'⟩:=sign_ex hq iP (ndr i1 m1 l1)
  obtain⟨e2',c2',s2'⟩:=sign_ex hq iP (ndr i2 m2 l2)
  rw[hj,Nat.add_sub_cancel]at s1' s2'
  obtain⟨s,hs0,hrec⟩:=recip (p:=p) (d:=d) (j:=j) hq
  have r1:=hrec i1 l1 (by rw[lead_f l1,m1]) iP hj (by rw[lead_f hj,mP]) s1 s1'
  have r2:=hrec i2 l2 (by rw[lead_f l2,m2]) iP hj (by rw[lead_f hj,mP]) s2 s2'
  have he':e1'=e2':=by
   have h1:s*e1'=s*e2':=by rw[r1,r2,he]
   refine sub_eq_zero.1 ((Fld.domain (a:=s) ?_).resolve_left hs0)
   rw[show s*(e1'-e2')=s*e1'-s*e2' from RE.eq [s,e1',e2'] (t0*(t1-t2)) (t0*t1-t0*t2) rfl,h1,sub_self]
  have hee:e1'*e2'=1:=by
   rw[← he']
   rcases c1' with h | h
   ·rw[h,Crg.mul_one]
   ·rw[h]
    exact RE.eq (α:=Zp p) [] (-1 * -1) 1 rfl
  have hsq:=s1'.mul s2'
  rw[← mul_pw,C_mul_C,hee]at hsq
  obtain⟨c,hc⟩:=hjk
  have hexp:(p.toNat^k-1) / 2=(p.toNat^j-1) / 2*geo (p.toNat^j) c:=by
   have hodd:p.toNat^j%2=1:=by rw[Nat.pow_mod,hq,Nat.one_pow]
   have h1:=geo_eq (p.toNat^j) c
   rw[← Nat.pow_mul,← hc]at h1
   obtain⟨h',hh⟩:∃ h',p.toNat^j-1=2*h':=⟨(p.toNat^j-1) / 2,by omega⟩
   rw[hh,Nat.mul_assoc]at h1
   rw[hh,← h1,Nat.mul_div_cancel_left _ (by decide),Nat.mul_div_cancel_left _ (by decide)]
  have hfin:=hsq.pw (geo (p.toNat^j) c)
  rw[← pw_mul,← hexp]at hfin
  have:pw (C 1:Pol (Zp p)) (geo (p.toNat^j) c)=1:=one_pw _
  rw[this]at hfin
  exact hfin
theorem part_ex (hp2:p.toNat≤65536) {d:Nat} (hd:1≤d) (hd2:d≤32) {f f1 f2:Pol (Zp p)} (i1:Irr f1) (i2:Irr f2) (m1:f1.lead=1) (m2:f2.lead=1) (l1:f1.len=d+1) (l2:f2.len=d+1) (hne:f1≠f2) (d1:Dvs f1 f) (d2:Dvs f2 f):∃ n,p.toNat≤n/\n<2^50/\(Splits f (dgp p n)∨p.toNat%2=1/\Splits f (pw (dgp p n) ((p.toNat^d-1) / 2)-1)):=by
 have h2:=two_le (p:=p)
 have own:2*p.toNat^d≤2^50->∃ n,p.toNat≤n/\n<2^50/\(Splits f (dgp p n)∨p.toNat%2=1/\Splits f (pw (dgp p n) ((p.toNat^d-1) / 2)-1)):=fun hle=>by
  have hn1:=cdp_top l1
  have hn2:=cdp_monic (P:=f1) (d:=d) (by rw[lead_f l1,m1])
  have hpd:p.toNat≤p.toNat^d:=by
   have:=Nat.pow_le_pow_right (n:=p.toNat) (by omega) hd
   rwa [Nat.pow_one]at this
  refine⟨cdp f1 (d+1),by omega,by omega,.inl ⟨f1,f2,i1,i2,d1,d2,?_,fun hdv=>hne ?_⟩⟩
  ·rw[dgp_cdp (by omega)]
   exact Dvs.refl f1
  ·rw[dgp_cdp (by omega)]at hdv
   exact(i2.eq i1 m2 m1 hdv).symm
 -- the least power of p that is large enough
 obtain⟨k,hk1,hk2,hk3⟩:∃ k,1≤k/\2^17≤p.toNat^k/\p.toNat^(k-1)<2^17:=by
  have key:∀ m,2^17≤p.toNat^m->∃ k,1≤k/\2^17≤p.toNat^k/\p.toNat^(k-1)<2^17:=by
   intro m
   induction m with
   | zero=>intro h;rw[Nat.pow_zero]at h;omega
   | succ m ih =>
    intro h
    rcases Nat.lt_or_ge (p.toNat^m) (2^17)with h1 | h1
    ·exact⟨m+1,by omega,h,h1⟩
    ·exact ih h1
  exact key 17 (Nat.pow_le_pow_left h2 17)
 obtain⟨k',rfl⟩:∃ k',k=k'+1:=⟨k-1,by omega⟩
 rw[Nat.add_sub_cancel]at hk3
 have e1:p.toNat^(k'+1)≤2^17*65536:=by rw[Nat.pow_succ];exact Nat.mul_le_mul (by omega) hp2
 rcases Nat.lt_or_ge (k'+1) d with hkd | hkd
 ·rcases Nat.mod_two_eq_zero_or_one p.toNat with hq | hq
  ·-- p is 2
   have hp0:p.toNat=2:=by
    have:p.toNat∣2*(p.toNat / 2):=⟨1,by omega⟩
    rcases prm_dvd this with h | h
    ·have:=Nat.le_of_dvd (by decide) h;omega
    ·have:=Nat.le_of_dvd (by omega) h;omega
   refine own ?_
   rw[hp0]
   exact Nat.le_trans (Nat.mul_le_mul_left 2 (Nat.pow_le_pow_right (by decide) hd2)) (by decide)
  ·obtain⟨n,h3,h4,h5⟩:=part_odd hq (k:=k'+1) (by omega) hkd (by
    have:=Nat.mul_le_mul hd2 hd2
    omega) i1 i2 m1 m2 l1 l2 hne d1 d2
   refine⟨n,h3,Nat.lt_of_lt_of_le h4 ?_,.inr ⟨hq,h5⟩⟩
   rw[Nat.pow_succ]
   exact Nat.le_trans (Nat.mul_le_mul e1 hp2) (by decide)
 ·refine own ?_
  have:=Nat.pow_le_pow_right (n:=p.toNat) (by omega) hkd
  omega
end
end Go.Proofs.YtibaocbpeaejkaaGreat
