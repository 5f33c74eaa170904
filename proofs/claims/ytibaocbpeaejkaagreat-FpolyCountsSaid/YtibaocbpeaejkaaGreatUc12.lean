/- Reciprocity of irreducible polynomials over the field of p elements. Plain: no program. -/
import Derived.Test.YtibaocbpeaejkaaGreatUc11
import Derived.Test.YtibaocbpeaejkaaGreatUc7
import Derived.Test.YtibaocbpeaejkaaGreatUc5
namespace Go.Proofs.YtibaocbpeaejkaaGreat
open Crg Pol
section
variable {R:Type} [Crg R]
theorem hv_app (y : R) (e : R) : ∀ l : List R, hv y (l ++ [e]) = hv y l + pw y l.length * e
 | []=>by
  show e+y*0=0+1*e
  rw[mul_zero,add_zero,one_mul,zero_add]
 | c :: l=>by
  show c+y*hv y (l++[e])=c+y*hv y l+pw y l.length*y*e
  rw[hv_app y e l]
  exact RE.eq [c,y,hv y l,pw y l.length,e] (t0+t1*(t2+t3*t4)) (t0+t1*t2+t3*t1*t4) rfl
theorem hv_range (y : R) (g : Nat → R) : ∀ n, hv y ((List.range n).map g) = sm (fun i => g i * pw y i) n
 | 0=>rfl
 | n+1=>by
  rw[List.range_succ,List.map_append,List.map_cons,List.map_nil,hv_app,hv_range y g n,List.length_map,List.length_range,mul_comm (pw y n)]
  rfl
end
section
variable {p:Int} [hp:Prm p]
theorem frob_hm {α:Type} [Crg α] (h0:(nc p.toNat:α)=0) (l:Nat):Hm fun a:α=>pw a (p.toNat^l):=⟨fun a b=>frobN h0 a b l,fun a b=>mul_pw a b _,one_pw _⟩
theorem ncT:(nc p.toNat:Pol (Pol (Zp p)))=0:=by rw[nc_C,Pol.nc_p,C_zero]
theorem val_frob (l:Nat) (a:Pol (Zp p)):ev C (pw X (p.toNat^l)) a=pw a (p.toNat^l) :=
 hm_ext (ev_hm C_hm _) (frob_hm Pol.nc_p l) (fun c=>by rw[ev_C C_hm,C_pw,Zp.fermatN]) (ev_X C_hm _) a
theorem val_up {A:Type} [Crg A] (y:Pol A) (a:Pol A):ev (fun c=>c) y (up a)=ev C y a :=
 hm_ext (Hm.comp up_hm (ev_hm Hm.id y)) (ev_hm C_hm y) (fun c=>by rw[up_C,ev_C Hm.id,ev_C C_hm]) (by rw[up_X,ev_X Hm.id,ev_X C_hm]) a
noncomputable abbrev rts (p:Int) [Prm p] (d:Nat):Pol (Pol (Zp p)):=pr (fun i=>X-C (pw X (p.toNat^i))) d
theorem lin_top {A:Type} [Crg A] (c:A):(X-C c:Pol A).len≤2/\(X-C c:Pol A).f 1=1:=by
 refine⟨len_le fun j hj=>?_,?_⟩
 ·show(if j=1 then(1:A)else 0)-(if j=0 then c else 0)=0
  rw[if_neg (by omega),if_neg (by omega),sub_self]
 ·show(if 1=1 then(1:A)else 0)-(if 1=0 then c else 0)=1
  rw[if_pos rfl,if_neg (by omega),sub_zero]
theorem lin_pr {A : Type} [Crg A] (c : Nat → A) : ∀ n, (pr (fun i => (X - C (c i) : Pol A)) n).len ≤ n + 1 ∧ (pr (fun i => (X - C (c i) : Pol A)) n).f n = 1
 | 0=>⟨by show(1:Pol A).len≤1;exact len_mn 1 0,rfl⟩
 | n+1=>by
  obtain⟨h1,h2⟩:=lin_pr c n
  obtain⟨h3,h4⟩:=lin_top (c n)
  refine⟨?_,?_⟩
  ·have:=len_mul_le (pr (fun i=>(X-C (c i):Pol A)) n) (X-C (c n))
   show(pr (fun i=>(X-C (c i):Pol A)) n*(X-C (c n))).len≤_
   omega
  ·show(pr (fun i=>(X-C (c i):Pol A)) n*(X-C (c n))).f (n+1)=1
   rw[top_mul h1 h3,h2,h4,Crg.mul_one]
theorem frob_sub {α:Type} [Crg α] (h0:(nc p.toNat:α)=0) (a b:α) (l:Nat):pw (a-b) (p.toNat^l)=pw a (p.toNat^l)-pw b (p.toNat^l):=(frob_hm h0 l).sub a b
theorem Pol.Irr.of_pw {K : Type} [Fld K] {P a : Pol K} (h : Irr P) : ∀ {n : Nat}, Dvs P (pw a n) → Dvs P a
 | 0,hd=>absurd hd h.not_one
 | _+1,hd=>(h.prime hd).elim (fun k=>Irr.of_pw h k) id
theorem pts_ne {f:Pol (Zp p)} {d:Nat} (hf:Irr f) (hl:f.len=d+1) {a b:Nat} (hab:a<b) (hb:b<d):¬ Dvs f (pw X (p.toNat^b)-pw X (p.toNat^a)):=fun hd=>by
 have e:pw X (p.toNat^b)-pw X (p.toNat^a)=pw (fro p (b-a)) (p.toNat^a):=by
  rw[frob_sub Pol.nc_p,← pw_mul,← Nat.pow_add,show b-a+a=b by omega]
 rw[e]at hd
 have h1:=(irr_dvs_fro hf).1 (hf.of_pw hd)
 have:=Nat.le_of_dvd (by omega) h1
 omega
theorem rts_dvs {f:Pol (Zp p)} {d:Nat} (hf:Irr f) (hl:f.len=d+1) (h1:f.f d=1) (j:Nat):Dvs f ((up f-rts p d).f j):=by
 have g1:(rts p d).len≤d+1:=(lin_pr (fun i=>(pw X (p.toNat^i):Pol (Zp p))) d).1
 have g2:(rts p d).f d=1:=(lin_pr (fun i=>(pw X (p.toNat^i):Pol (Zp p))) d).2
 have hD:∀ j,d≤j->(up f-rts p d).f j=0:=fun j hj=>by
  rw[f_sub,up_f]
  by_cases e:j=d
  ·rw[e,h1]
   show(1:Pol (Zp p))-(rts p d).f d=0
   rw[g2,sub_self]
  ·rw[len_out f j (by omega),C_zero,len_out (rts p d) j (by omega),sub_self]
 have hv0:∀ l,l<d->Dvs f (ev (fun c=>c) (pw X (p.toNat^l)) (up f-rts p d)):=fun l hl=>by
  rw[(ev_hm Hm.id _).sub,val_up,val_frob,(ev_hm Hm.id _).pr,pr_zero hl (by
   rw[(ev_hm Hm.id _).sub,ev_X Hm.id,ev_C Hm.id,sub_self]),sub_zero]
  obtain⟨m,hm⟩:∃ m,p.toNat^l=m+1:=⟨p.toNat^l-1,by have:=Nat.pow_pos (n:=l) (show 0<p.toNat by have:=two_le (p:=p);omega);omega⟩
  rw[hm]
  exact(Dvs.refl f).mul' _
 generalize up f-rts p d=D at *
 refine Classical.byContradiction fun hno=>?_
 have hmax:∃ n,¬ Dvs f (D.f n)/\∀ i,n<i->Dvs f (D.f i):=by
  have key:∀ k i,d≤i+k->¬ Dvs f (D.f i)->∃ n,¬ Dvs f (D.f n)/\∀ i,n<i->Dvs f (D.f i):=by
   intro k
   induction k with
   | zero =>
    intro i hi hn
    exact absurd (by rw[hD i (by omega)];exact Dvs.zero f) hn
   | succ k ih =>
    intro i hi hn
    by_cases hall:∀ i',i<i'->Dvs f (D.f i')
    ·exact⟨i,hn,hall⟩
    ·obtain⟨i',h1⟩:=Classical.not_forall.1 hall
     obtain⟨h2,h3⟩:=Classical.not_imp.1 h1
     exact ih i' (by omega) h3
  exact key d j (by omega) hno
 obtain⟨n,hn,hn2⟩:=hmax
 have hnd:n<d:=by
  rcases Nat.lt_or_ge n d with h | h
  ·exact h
  ·exact absurd (by rw[hD n h];exact Dvs.zero f) hn
 have hev:∀ y,ev (fun c=>c) y D=sm (fun i=>D.f i*pw y i) d:=fun y=>ev_le Hm.id y hD
 have hrt:∀ l,l<d->Dvs f (hv (pw X (p.toNat^l)) ((List.range (n+1)).map D.f)):=fun l hl=>by
  have h2:=hv0 l hl
  rw[hev,show d=n+1+(d-(n+1))by omega,sm_split,Crg.add_comm]at h2
  rw[hv_range]
  refine h2.of_add ?_
  have:∀ m,Dvs f (sm (fun i=>D.f (n+1+i)*pw (pw X (p.toNat^l)) (n+1+i)) m):=by
   intro m
   induction m with
   | zero=>exact Dvs.zero f
   | succ m ih=>exact ih.add ((hn2 (n+1+m) (by omega)).mul _)
  exact this _
 have hr:=roots_le (irr_prime hf) n ((List.range (n+1)).map D.f) ((List.range d).map fun l=>pw X (p.toNat^l)) (D.f n) (by simp) (by rw[List.range_succ,List.map_append];simp) hn (fun y hy=>by
  obtain⟨l,hl,rfl⟩:=List.mem_map.1 hy
  exact hrt l (List.mem_range.1 hl)) (by
  rw[List.pairwise_map]
  refine List.Pairwise.imp_of_mem (R:=fun a b=>a<b) (fun {a b} ha hb hab=>?_) List.pairwise_lt_range
  exact pts_ne hf hl hab (List.mem_range.1 hb))
 rw[List.length_map,List.length_range]at hr
 omega
theorem all_dvs {K : Type} [Fld K] {f : Pol K} : ∀ (n : Nat) (D : Pol (Pol K)), D.len ≤ n → (∀ j, Dvs f (D.f j)) → ∃ E, D = C f * E
 | 0,D,h,_=>⟨0,by rw[mul_zero];exact len_nil (by omega)⟩
 | n+1,D,h,hd=>by
  obtain⟨q,hq⟩:=hd n
  obtain⟨E,hE⟩:=all_dvs n (D-mn (D.f n) n) (len_le fun j hj=>by
   show D.f j-(if j=n then D.f n else 0)=0
   split
   ·rename_i e;rw[e,sub_self]
   ·rw[len_out D j (by omega),sub_self]) fun j=>by
   show Dvs f (D.f j-(if j=n then D.f n else 0))
   split
   ·rename_i e;rw[e,sub_self];exact Dvs.zero f
   ·rw[sub_zero];exact hd j
  refine⟨E+mn q n,?_⟩
  rw[mul_add,← hE,mn_mn,Nat.zero_add,← hq]
  exact RE.eq [D,mn (D.f n) n] t0 (t0-t1+t1) rfl
def Id2 {K:Type} [Crg K] (f P:Pol K) (t:Pol (Pol K)):Prop:=∃ u v,t=u*C f+v*up P
namespace Id2
variable {K:Type} [Crg K] {f P:Pol K}
theorem add {a b:Pol (Pol K)} (h:Id2 f P a) (k:Id2 f P b):Id2 f P (a+b):=by
 obtain⟨u,v,rfl⟩:=h
 obtain⟨w,x,rfl⟩:=k
 exact⟨u+w,v+x,RE.eq [u,v,w,x,C f,up P] (t0*t4+t1*t5+(t2*t4+t3*t5)) ((t0+t2)*t4+(t1+t3)*t5) rfl⟩
theorem mul {a:Pol (Pol K)} (h:Id2 f P a) (c:Pol (Pol K)):Id2 f P (c*a):=by
 obtain⟨u,v,rfl⟩:=h
 exact⟨c*u,c*v,RE.eq [c,u,C f,v,up P] (t0*(t1*t2+t3*t4)) (t0*t1*t2+t0*t3*t4) rfl⟩
theorem neg {a:Pol (Pol K)} (h:Id2 f P a):Id2 f P (-a):=by
 have:=h.mul (-1)
 rwa [neg_mul,one_mul]at this
theorem zero:Id2 f P 0:=⟨0,0,by rw[zero_mul,zero_mul,Crg.add_zero]⟩
theorem trans {a b c:Pol (Pol K)} (h:Id2 f P (a-b)) (k:Id2 f P (b-c)):Id2 f P (a-c):=by
 have:=h.add k
 rwa [show a-b+(b-c)=a-c from RE.eq [a,b,c] (t0-t1+(t1-t2)) (t0-t2) rfl]at this
theorem symm {a b:Pol (Pol K)} (h:Id2 f P (a-b)):Id2 f P (b-a):=by
 have:=h.neg
 rwa [show -(a-b)=b-a from RE.eq [a,b] (-(t0-t1)) (t1-t0) rfl]at this
theorem mulc {a b c d:Pol (Pol K)} (h:Id2 f P (a-b)) (k:Id2 f P (c-d)):Id2 f P (a*c-b*d):=by
 have:=(h.mul c).add (k.mul b)
 rwa [show c*(a-b)+b*(c-d)=a*c-b*d from RE.eq [a,b,c,d] (t2*(t0-t1)+t1*(t2-t3)) (t0*t2-t1*t3) rfl]at this
theorem prc {a b : Nat → Pol (Pol K)} (h : ∀ i, Id2 f P (a i - b i)) : ∀ n, Id2 f P (pr a n - pr b n)
 | 0=>by
  show Id2 f P (1-1)
  rw[sub_self]
  exact zero
 | n+1=>(prc h n).mulc (h n)
theorem pwc {a b : Pol (Pol K)} (h : Id2 f P (a - b)) : ∀ n, Id2 f P (pw a n - pw b n)
 | 0=>by
  show Id2 f P (1-1)
  rw[sub_self]
  exact zero
 | n+1=>(pwc h n).mulc h
theorem of_f {a b:Pol K} (h:Dvs f (a-b)):Id2 f P (C a-C b):=by
 obtain⟨q,hq⟩:=h
 refine⟨C q,0,?_⟩
 rw[zero_mul,Crg.add_zero,C_mul_C,Crg.mul_comm q,← hq]
 exact(C_hm.sub a b).symm
theorem of_P {a b:Pol K} (h:Dvs P (a-b)):Id2 f P (up a-up b):=by
 obtain⟨q,hq⟩:=h
 refine⟨0,up q,?_⟩
 rw[zero_mul,zero_add,← up_hm.sub,hq,up_hm.mul,Crg.mul_comm]
end Id2
theorem Id2.proper {K:Type} [Fld K] {f P:Pol K} {j:Nat} (hf:2≤f.len) (hP:P.len≤j+1) (h1:P.f j=1) (hj:1≤j) {c:K} (h:Id2 f P (C (C c))):c=0:=by
 obtain⟨u,v,e⟩:=h
 have ul:(up P).len≤j+1:=Nat.le_trans (up_len P) hP
 have ut:(up P).f j=1:=by rw[up_f,h1];rfl
 obtain⟨q,r,hq,hr⟩:=div_monic ul ut u.len u (Nat.le_refl _)
 have e2:C (C c)-r*C f=(v+q*C f)*up P:=by
  rw[e,hq]
  exact RE.eq [q,up P,r,C f,v] ((t0*t1+t2)*t3+t4*t1-t2*t3) ((t4+t0*t3)*t1) rfl
 have hz:v+q*C f=0:=Classical.byContradiction fun hne=>by
  have hw:=len_pos hne
  obtain⟨n,hn⟩:∃ n,(v+q*C f).len=n+1:=⟨_,(Nat.sub_add_cancel hw).symm⟩
  have e3:=congrArg (fun a:Pol (Pol K)=>a.f (n+j)) e2
  have e3:(C (C c)-r*C f).f (n+j)=((v+q*C f)*up P).f (n+j):=e3
  rw[top_mul (by omega) ul,ut,Crg.mul_one,f_sub]at e3
  refine len_top _ hn ?_
  rw[← e3]
  have a1:(C (C c):Pol (Pol K)).f (n+j)=0:=if_neg (by omega)
  have a2:(r*C f).f (n+j)=0:=by rw[Crg.mul_comm,C_mul,len_out r _ (by omega),mul_zero]
  rw[a1,a2,sub_self]
 rw[hz,zero_mul]at e2
 have e4:=congrArg (fun a:Pol (Pol K)=>a.f 0) e2
 have e4:(C (C c):Pol (Pol K)).f 0-(r*C f).f 0=0:=e4
 rw[Crg.mul_comm,C_mul]at e4
 have e5:C c=f*r.f 0:=sub_eq_zero.1 e4
 refine Classical.byContradiction fun hc=>?_
 have h2:Dvs f (C c):=⟨_,e5⟩
 have:=h2.len (ne_of_len (by rw[len_C hc];omega))
 rw[len_C hc]at this
 omega
theorem recip0 {f P:Pol (Zp p)} {d j:Nat} (hf:Irr f) (lf:f.len=d+1) (mf:f.f d=1) (hP:Irr P) (lP:P.len=j+1) (mP:P.f j=1):Id2 f P (pw (pw (-1) j) d*pw (up f) (geo p.toNat j)-pw (C P) (geo p.toNat d)):=by
 obtain⟨E,hE⟩:=all_dvs _ _ (Nat.le_refl _) (rts_dvs hf lf mf)
 obtain⟨E2,hE2⟩:=all_dvs _ _ (Nat.le_refl _) (rts_dvs hP lP mP)
 have hE:up f=rts p d+C f*E:=by rw[← hE];exact RE.eq [up f,rts p d] t0 (t1+(t0-t1)) rfl
 have hE2:up P=rts p j+C P*E2:=by rw[← hE2];exact RE.eq [up P,rts p j] t0 (t1+(t0-t1)) rfl
 let M:Nat->Nat->Pol (Pol (Zp p)):=fun l i=>pw X (p.toNat^l)-C (pw X (p.toNat^i))
 have k1:∀ l,Id2 f P (pw (up f) (p.toNat^l)-pr (M l) d):=fun l=>by
  have hh:=ev_hm (C_hm (A:=Pol (Zp p))) (pw X (p.toNat^l))
  have e1:ev C (pw X (p.toNat^l)) (up f)=pw (up f) (p.toNat^l) :=
   hm_ext (Hm.comp up_hm hh) (Hm.comp up_hm (frob_hm ncT l)) (fun c=>by rw[up_C,ev_C C_hm,C_pw,C_pw,Zp.fermatN]) (by rw[up_X,ev_X C_hm]) f
  have e2:=congrArg (ev C (pw X (p.toNat^l))) hE
  rw[e1,hh.add,hh.pr,hh.mul,ev_C C_hm]at e2
  refine⟨ev C (pw X (p.toNat^l)) E,0,?_⟩
  rw[zero_mul,Crg.add_zero,e2,show pr (fun i=>ev C (pw X (p.toNat^l)) (X-C (pw X (p.toNat^i)))) d=pr (M l) d from pr_congr fun i _=>by rw[hh.sub,ev_X C_hm,ev_C C_hm]]
  exact RE.eq [pr (M l) d,C f,ev C (pw X (p.toNat^l)) E] (t0+t1*t2-t0) (t2*t1) rfl
 have k2:∀ i,Id2 f P (pw (C P) (p.toNat^i)-pr (fun l => -1*M l i) j):=fun i=>by
  have hh:=ev_hm (up_hm (A:=Zp p)) (C (pw X (p.toNat^i)))
  have e1:ev up (C (pw X (p.toNat^i))) (up P)=pw (C P) (p.toNat^i) :=
   hm_ext (Hm.comp up_hm hh) (Hm.comp C_hm (frob_hm ncT i)) (fun c=>by rw[up_C,ev_C up_hm,up_C,C_pw,C_pw,Zp.fermatN]) (by rw[up_X,ev_X up_hm,C_pw]) P
  have e2:=congrArg (ev up (C (pw X (p.toNat^i)))) hE2
  rw[e1,hh.add,hh.pr,hh.mul,ev_C up_hm]at e2
  refine⟨0,ev up (C (pw X (p.toNat^i))) E2,?_⟩
  rw[zero_mul,zero_add,e2,show pr (fun l=>ev up (C (pw X (p.toNat^i))) (X-C (pw X (p.toNat^l)))) j=pr (fun l => -1*M l i) j from pr_congr fun l _=>by
   rw[hh.sub,ev_X up_hm,ev_C up_hm,up_hm.pw,up_X]
   exact RE.eq [C (pw X (p.toNat^i)),pw X (p.toNat^l)] (t0-t1) (-1*(t1-t0)) rfl]
  exact RE.eq [pr (fun l => -1*M l i) j,up P,ev up (C (pw X (p.toNat^i))) E2] (t0+t1*t2-t0) (t2*t1) rfl
 have k3:=Id2.prc k1 j
 have k4:=Id2.prc k2 d
 rw[pr_pw,Crg.pr_swap M d j]at k3
 rw[pr_pw]at k4
 have e3:pr (fun i=>pr (fun l => -1*M l i) j) d=pw (pw (-1) j) d*pr (fun i=>pr (fun l=>M l i) j) d:=by
  rw[← pr_const,← pr_mul]
  refine pr_congr fun i _=>?_
  rw[pr_mul,pr_const]
 rw[e3]at k4
 have k5:=(k3.mul (pw (pw (-1) j) d)).add (k4.neg)
 have e4:∀ a b c s:Pol (Pol (Zp p)),s*(a-b) + -(c-s*b)=s*a-c:=fun a b c s=>RE.eq [a,b,c,s] (t3*(t0-t1) + -(t2-t3*t1)) (t3*t0-t2) rfl
 rw[e4]at k5
 exact k5
theorem geo_half {q n:Nat} (hq:q%2=1):geo q n*((q-1) / 2)=(q^n-1) / 2:=by
 have h:=geo_eq q n
 obtain⟨h',hh⟩:∃ h',q-1=2*h':=⟨(q-1) / 2,by omega⟩
 rw[hh,Nat.mul_assoc]at h
 rw[hh,Nat.mul_div_cancel_left _ (by decide),← h,Nat.mul_div_cancel_left _ (by decide),Nat.mul_comm]
theorem m1_ne {K:Type} [Fld K]:(-1:K)≠0:=fun e=>Fld.one_ne (K:=K) (by rw[← neg_neg (1:K),e,neg_zero])
theorem pw_ne {K : Type} [Fld K] {a : K} (h : a ≠ 0) : ∀ n, pw a n ≠ 0
 | 0=>Fld.one_ne
 | n+1=>fun e=>(Fld.domain e).elim (pw_ne h n) h
theorem recip {d j:Nat} (hq:p.toNat%2=1):∃ s:Zp p,s≠0/\∀ {f P:Pol (Zp p)},Irr f->f.len=d+1->f.f d=1->Irr P->P.len=j+1->P.f j=1->∀ {e e':Zp p},Cgr f (pw P ((p.toNat^d-1) / 2)) (C e)->Cgr P (pw f ((p.toNat^j-1) / 2)) (C e')->s*e'=e:=by
 refine⟨pw (pw (pw (-1) j) d) ((p.toNat-1) / 2),pw_ne (pw_ne (pw_ne m1_ne _) _) _,?_⟩
 intro f P hf lf mf hP lP mP e e' h1 h2
 have k:=(recip0 hf lf mf hP lP mP).pwc ((p.toNat-1) / 2)
 rw[mul_pw,← pw_mul (up f),← pw_mul (C P),geo_half hq,geo_half hq]at k
 have a1:Id2 f P (up (pw f ((p.toNat^j-1) / 2))-up (C e')):=Id2.of_P h2
 have a2:Id2 f P (C (pw P ((p.toNat^d-1) / 2))-C (C e)):=Id2.of_f h1
 rw[up_hm.pw,up_C]at a1
 rw[C_hm.pw]at a2
 have a3:=a1.mul (pw (pw (pw (-1) j) d) ((p.toNat-1) / 2))
 rw[show ∀ a b c:Pol (Pol (Zp p)),a*(b-c)=a*b-a*c from fun a b c=>RE.eq [a,b,c] (t0*(t1-t2)) (t0*t1-t0*t2) rfl]at a3
 have k2:=(a3.symm.trans k).trans a2
 have es:(pw (pw (pw (-1) j) d) ((p.toNat-1) / 2):Pol (Pol (Zp p)))=C (C (pw (pw (pw (-1) j) d) ((p.toNat-1) / 2))):=by
  have hc:=CC_hm (A:=Zp p)
  rw[hc.pw,hc.pw,hc.pw,hc.neg]
  rfl
 rw[es,← (CC_hm (A:=Zp p)).mul,← (CC_hm (A:=Zp p)).sub]at k2
 exact sub_eq_zero.1 (Id2.proper hf.two (by omega) mP (by have:=hP.two;omega) k2)
end
end Go.Proofs.YtibaocbpeaejkaaGreat
/- After Stepanov: a product of two irreducible polynomials is not a square at all places of a large field. Plain: no program. -/
namespace Go.Proofs.YtibaocbpeaejkaaGreat
open Crg Pol
theorem pigeon : ∀ (M : Nat) (s : Nat → Nat), (∀ n, n < M + 1 → s n < M) → ∃ a b, a < b ∧ b < M + 1 ∧ s a = s b
 | 0,s,h=>absurd (h 0 (by omega)) (by omega)
 | M+1,s,h=>by
  refine Classical.byContradiction fun hno=>?_
  have inj:∀ i j,i<M+2->j<M+2->s i=s j->i=j:=fun i j hi hj e=>by
   rcases Nat.lt_trichotomy i j with h1 | h1 | h1
   ·exact absurd ⟨i,j,h1,hj,e⟩ hno
   ·exact h1
   ·exact absurd ⟨j,i,h1,hi,e.symm⟩ hno
  have key:∀ i,i<M+1->swp (s (M+1)) M (s i)<M:=fun i hi=>by
   have a:=h i (by omega)
   have c:=h (M+1) (by omega)
   have b:s i≠s (M+1):=fun e=>by have:=inj i (M+1) (by omega) (by omega) e;omega
   unfold swp
   rw[if_neg b]
   split
   ·rename_i e;omega
   ·omega
  obtain⟨a,b,h1,h2,h3⟩:=pigeon M (fun i=>swp (s (M+1)) M (s i)) key
  have e:s a=s b:=by
   have a1:=inj a (M+1) (by omega) (by omega)
   have b1:=inj b (M+1) (by omega) (by omega)
   have h3:swp (s (M+1)) M (s a)=swp (s (M+1)) M (s b):=h3
   unfold swp at h3
   have ea:s a≠s (M+1):=fun e=>by have:=a1 e;omega
   have eb:s b≠s (M+1):=fun e=>by have:=b1 e;omega
   rw[if_neg ea,if_neg eb]at h3
   split at h3 <;> split at h3 <;> omega
  have:=inj a b (by omega) (by omega) e
  omega
theorem pigeon' {M N:Nat} (s:Nat->Nat) (hMN:M<N) (h:∀ n,n<N->s n<M):∃ a b,a<b/\b<N/\s a=s b:=by
 obtain⟨a,b,h1,h2,h3⟩:=pigeon M s fun n hn=>h n (by omega)
 exact⟨a,b,h1,by omega,h3⟩
section
variable {K:Type} [Fld K]
theorem Pol.Cop.pw {a b : Pol K} (h : Cop a b) : ∀ n, Cop a (Crg.pw b n)
 | 0=>⟨0,1,by show 0*a+1*1=1;rw[zero_mul,one_mul,zero_add]⟩
 | n+1=>(Cop.pw h n).mul h
theorem sq_eq {A f : Pol K} {c : K} (hf : Irr f) (h1 : Dvs f A) (h2 : ¬ Dvs (f * f) A) (hA : A ≠ 0) (hc : c ≠ 0) : ∀ (n : Nat) {r s : Pol K}, r.len ≤ n → r * r * A = C c * (s * s) → r = 0 ∧ s = 0
 | 0,r,s,hn,e=>by
  have hr:r=0:=len_nil (by omega)
  refine⟨hr,?_⟩
  rw[hr,zero_mul,zero_mul]at e
  rcases domain e.symm with h | h
  ·exact absurd h (ne_of_len (by rw[len_C hc];omega))
  ·exact(domain h).elim id id
 | n+1,r,s,hn,e=>by
  by_cases hr:r=0
  ·refine⟨hr,?_⟩
   rw[hr,zero_mul,zero_mul]at e
   rcases domain e.symm with h | h
   ·exact absurd h (ne_of_len (by rw[len_C hc];omega))
   ·exact(domain h).elim id id
  obtain⟨A',rfl⟩:=h1
  have hA':¬ Dvs f A':=fun⟨x,hx⟩=>h2 ⟨x,by rw[hx,Crg.mul_assoc]⟩
  have hcn:¬ Dvs f (C c):=fun hd=>by
   have:=hd.len (ne_of_len (by rw[len_C hc];omega))
   have:=hf.two
   rw[len_C hc]at *
   omega
  have d1:Dvs f (C c*(s*s)):=by
   rw[← e]
   exact(Dvs.refl f).mul A' |>.mul' _
  have d2:Dvs f s:=((hf.prime d1).resolve_left hcn) |> fun h=>(hf.prime h).elim id id
  obtain⟨s',rfl⟩:=d2
  have e2:r*r*A'=f*(C c*(s'*s')):=by
   refine cancel hf.ne ?_
   rw[show f*(r*r*A')=r*r*(f*A')from RE.eq [f,r,A'] (t0*(t1*t1*t2)) (t1*t1*(t0*t2)) rfl,e]
   exact RE.eq [f,C c,s'] (t1*(t0*t2*(t0*t2))) (t0*(t0*(t1*(t2*t2)))) rfl
  have d3:Dvs f r:=by
   have:Dvs f (r*r*A'):=by rw[e2];exact(Dvs.refl f).mul _
   exact((hf.prime this).resolve_right hA') |> fun h=>(hf.prime h).elim id id
  obtain⟨r',rfl⟩:=d3
  have hr':r'≠0:=fun h=>hr (by rw[h,mul_zero])
  have hl:=len_mul hf.ne hr'
  have:=hf.two
  have ih:=sq_eq hf ⟨A',rfl⟩ h2 hA hc n (r:=r') (s:=s') (by omega) (by
   refine cancel hf.ne ?_
   rw[show f*(r'*r'*(f*A'))=f*r'*(f*r')*A' from RE.eq [f,r',A'] (t0*(t1*t1*(t0*t2))) (t0*t1*(t0*t1)*t2) rfl,e2])
  exact absurd ih.1 hr'
end
/-! ### The power series of the root -/
section
variable {R:Type} [Crg R]
def cut (g:Nat->R) (n:Nat):Pol R:=⟨fun i=>if i<n then g i else 0,n,fun j hj=>if_neg (by omega)⟩
theorem low_zero {E:Pol R} {l:Nat} (h:∀ e,e<l->E.f e=0):∃ q,E=mn 1 l*q:=by
 refine⟨⟨fun i=>E.f (l+i),E.len,fun j hj=>len_out E _ (by omega)⟩,Pol.ext fun i=>?_⟩
 rw[mn_mul]
 split
 ·show E.f i=1*E.f (l+(i-l))
  rw[one_mul,show l+(i-l)=i by omega]
 ·exact h i (by omega)
end
section
variable {K:Type} [Fld K]
theorem root_series {half : K} (hh : half + half = 1) {D : Nat} {H : Pol (Pol K)} (h0 : H.f 0 = 1) (hb : ∀ e, (H.f e).len ≤ e * D + 1) : ∀ l : Nat, ∃ G : Pol (Pol K), G.f 0 = 1 ∧ (∀ e, (G.f e).len ≤ e * D + 1) ∧ (∀ e, l + 1 ≤ e → G.f e = 0) ∧ ∀ e, e < l + 1 → (G * G).f e = H.f e
 | 0=>by
  refine⟨1,rfl,fun e=>?_,fun e he=>if_neg (by omega),fun e he=>?_⟩
  ·show(if e=0 then(1:Pol K)else 0).len≤_
   split
   ·rw[len_one];omega
   ·rw[len_zero];omega
  ·obtain rfl:e=0:=by omega
   rw[Crg.mul_one,h0]
   rfl
 | l+1=>by
  obtain⟨G,g0,gb,gz,gs⟩:=root_series hh h0 hb l
  let c:Pol K:=C half*(H.f (l+1)-(G*G).f (l+1))
  have sq:(G*G).f (l+1)=cv G.f G.f (l+1):=rfl
  have sql:((G*G).f (l+1)).len≤(l+1)*D+1:=by
   rw[sq]
   unfold cv
   have key:∀ n,n≤l+2->(sm (fun i=>G.f i*G.f (l+1-i)) n).len≤(l+1)*D+1:=by
    intro n
    induction n with
    | zero=>intro _;show(0:Pol K).len≤_;rw[len_zero];omega
    | succ n ih =>
     intro hn
     have h1:=ih (by omega)
     have h2:=len_add (sm (fun i=>G.f i*G.f (l+1-i)) n) (G.f n*G.f (l+1-n))
     have h3:=len_mul_le (G.f n) (G.f (l+1-n))
     have h4:=gb n
     have h5:=gb (l+1-n)
     have h6:n*D+(l+1-n)*D=(l+1)*D:=by rw[← Nat.add_mul,show n+(l+1-n)=l+1 by omega]
     show(sm (fun i=>G.f i*G.f (l+1-i)) n+G.f n*G.f (l+1-n)).len≤_
     omega
   exact key _ (Nat.le_refl _)
  have cl:c.len≤(l+1)*D+1:=by
   have h1:=len_mul_le (C half) (H.f (l+1)-(G*G).f (l+1))
   have h2:=len_sub (H.f (l+1)) ((G*G).f (l+1))
   have h3:=hb (l+1)
   have h4:=len_mn half 0
   show(C half*(H.f (l+1)-(G*G).f (l+1))).len≤_
   have h4:(C half:Pol K).len≤0+1:=h4
   omega
  have c2:c+c=H.f (l+1)-(G*G).f (l+1):=by
   show C half*_+C half*_=_
   rw[← add_mul,← C_add,hh]
   exact one_mul _
  clear_value c
  have exp:(G+mn c (l+1))*(G+mn c (l+1))=G*G+(mn (c+c) (l+1)*G+mn (c*c) (l+1+(l+1))):=by
   rw[← mn_mn,show(mn (c+c) (l+1):Pol (Pol K))=mn c (l+1)+mn c (l+1)from Pol.ext fun i=>by
    show(if i=l+1 then c+c else 0)=(if i=l+1 then c else 0)+if i=l+1 then c else 0
    split
    ·rfl
    ·exact(Crg.add_zero _).symm]
   exact RE.eq [G,mn c (l+1)] ((t0+t1)*(t0+t1)) (t0*t0+((t1+t1)*t0+t1*t1)) rfl
  refine⟨G+mn c (l+1),?_,fun e=>?_,fun e he=>?_,fun e he=>?_⟩
  ·show G.f 0+(if 0=l+1 then c else 0)=1
   rw[if_neg (by omega),Crg.add_zero,g0]
  ·show(G.f e+(if e=l+1 then c else 0)).len≤_
   split
   ·rename_i h;rw[gz e (by omega),zero_add,h];exact cl
   ·rw[Crg.add_zero];exact gb e
  ·show G.f e+(if e=l+1 then c else 0)=0
   rw[if_neg (by omega),gz e (by omega),Crg.add_zero]
  ·rw[exp,f_add,f_add,mn_mul]
   have m0:(mn (c*c) (l+1+(l+1)):Pol (Pol K)).f e=0:=if_neg (by omega)
   rw[m0,Crg.add_zero]
   by_cases h:e=l+1
   ·rw[if_pos (by omega),show e-(l+1)=0 by omega,g0,Crg.mul_one,c2,h]
    exact RE.eq [H.f (l+1),(G*G).f (l+1)] (t1+(t0-t1)) t0 rfl
   ·rw[if_neg (by omega),Crg.add_zero]
    exact gs e (by omega)
end
end Go.Proofs.YtibaocbpeaejkaaGreat
/- After Stepanov, continued: the series' value, and polynomials in two variables of small degrees. Plain: no program. -/
namespace Go.Proofs.YtibaocbpeaejkaaGreat
open Crg Pol
section
variable {K:Type} [Fld K]
theorem len_pw {A : Pol K} {D : Nat} (h : A.len ≤ D + 1) : ∀ n, (pw A n).len ≤ n * D + 1
 | 0=>by show(1:Pol K).len≤_;rw[len_one];omega
 | n+1=>by
  have h1:=len_pw h n
  have h2:=len_mul_le (pw A n) A
  have h3:(n+1)*D=n*D+D:=Nat.succ_mul n D
  show(pw A n*A).len≤_
  omega
theorem ev_id_hm (y:Pol K):Hm (ev (fun c:Pol K=>c) y):=ev_hm Hm.id y
theorem sm_cgr {M : Pol K} {f g : Nat → Pol K} : ∀ {n : Nat}, (∀ i, i < n → Cgr M (f i) (g i)) → Cgr M (sm f n) (sm g n)
 | 0,_=>Cgr.refl _ _
 | _+1,h=>(sm_cgr fun i hi=>h i (by omega)).add (h _ (by omega))
theorem ev_cgr {M y z:Pol K} (h:Cgr M y z) (H:Pol (Pol K)):Cgr M (ev (fun c=>c) y H) (ev (fun c=>c) z H) :=
 sm_cgr fun i _=>(Cgr.refl _ _).mul (h.pw i)
theorem ev_at_zero (H:Pol (Pol K)):ev (fun c=>c) 0 H=H.f 0:=by
 rw[ev_le Hm.id (0:Pol K) (a:=H) (n:=H.len+1) (fun j hj=>len_out H j (by omega)),sm_head]
 show H.f 0*1+_=_
 rw[Crg.mul_one,sm_zero fun i _=>by
  show H.f (i+1)*(pw 0 i*0)=0
  rw[mul_zero,mul_zero],Crg.add_zero]
theorem root_val {half:K} (hh:half+half=1) {D l:Nat} {A g Y u v:Pol K} {H:Pol (Pol K)} (hu:u*A+v*pw Y (l+1)=1) (hA:A.len≤D+1) (hH0:H.f 0=A) (hHb:∀ e,(H.f e).len≤D+1) (hg:g*g*A=ev (fun c=>c) Y H) (hg1:Cgr Y g 1):∃ G:Pol (Pol K),(∀ e,(G.f e).len≤e*D+1)/\(∀ e,l+1≤e->G.f e=0)/\Cgr (pw Y (l+1)) g (ev (fun c=>c) (u*Y) G):=by
 let Hs:Pol (Pol K):=⟨fun e=>if e=0 then 1 else H.f e*pw A (e-1),H.len+1,fun j hj=>by
  rw[if_neg (by omega),len_out H j (by omega),zero_mul]⟩
 have hs0:Hs.f 0=1:=by
  show(if(0:Nat)=0 then(1:Pol K)else H.f 0*pw A (0-1))=1
  rw[if_pos rfl]
 have hs1:∀ e,Hs.f (e+1)=H.f (e+1)*pw A e:=fun e=>by
  show(if e+1=0 then(1:Pol K)else H.f (e+1)*pw A (e+1-1))=_
  rw[if_neg (by omega)]
  rfl
 have hsb:∀ e,(Hs.f e).len≤e*D+1:=fun e=>by
  cases e with
  | zero=>rw[hs0,len_one];omega
  | succ e =>
   rw[hs1]
   have h1:=len_mul_le (H.f (e+1)) (pw A e)
   have h2:=len_pw hA e
   have h3:=hHb (e+1)
   have h4:(e+1)*D=e*D+D:=Nat.succ_mul e D
   omega
 obtain⟨G,g0,gb,gz,gs⟩:=root_series hh hs0 hsb l
 refine⟨G,gb,gz,?_⟩
 obtain⟨M,hM⟩:∃ M,M=pw Y (l+1):=⟨_,rfl⟩
 obtain⟨T,hT⟩:∃ T,T=u*Y:=⟨_,rfl⟩
 obtain⟨γ,hγ⟩:∃ γ,γ=ev (fun c=>c) T G:=⟨_,rfl⟩
 rw[← hM,← hT,← hγ]
 rw[← hM]at hu
 have s1:Cgr M (γ*γ) (ev (fun c=>c) T Hs):=by
  obtain⟨q,hq⟩:=low_zero (E:=G*G-Hs) (l:=l+1) fun e he=>by rw[f_sub,gs e he,sub_self]
  show Dvs M (γ*γ-ev (fun c=>c) T Hs)
  rw[hγ,← (ev_id_hm T).mul,← (ev_id_hm T).sub,hq,(ev_id_hm T).mul,ev_mn Hm.id,one_mul,hT,mul_pw,← hM]
  exact((Dvs.refl M).mul' _).mul _
 have s2:A*ev (fun c=>c) T Hs=ev (fun c=>c) (A*T) H:=by
  rw[ev_le Hm.id T (a:=Hs) (n:=H.len+1) (fun j hj=>by
   show(if j=0 then(1:Pol K)else H.f j*pw A (j-1))=0
   rw[if_neg (by omega),len_out H j (by omega),zero_mul]),ev_le Hm.id (A*T) (a:=H) (n:=H.len+1) (fun j hj=>len_out H j (by omega)),mul_sm]
  refine sm_congr fun i _=>?_
  cases i with
  | zero =>
   show A*(Hs.f 0*1)=H.f 0*1
   rw[hs0,hH0,one_mul]
  | succ i =>
   rw[hs1,mul_pw]
   show A*(H.f (i+1)*pw A i*(pw T i*T))=H.f (i+1)*(pw A i*A*(pw T i*T))
   exact RE.eq [A,H.f (i+1),pw A i,pw T i,T] (t0*(t1*t2*(t3*t4))) (t1*(t2*t0*(t3*t4))) rfl
 have s3:Cgr M (A*T) Y:=⟨-(v*Y),by
  rw[hT]
  have e:A*(u*Y)-Y=(u*A+v*M)*Y-Y-v*M*Y:=RE.eq [A,u,Y,v,M] (t0*(t1*t2)-t2) ((t1*t0+t3*t4)*t2-t2-t3*t4*t2) rfl
  rw[e,hu,one_mul,sub_self]
  exact RE.eq [v,M,Y] (0-t0*t1*t2) (t1 * -(t0*t2)) rfl⟩
 have s4:Cgr M (A*(γ*γ)) (A*(g*g)):=by
  refine((Cgr.refl M A).mul s1).trans ?_
  rw[s2]
  refine(ev_cgr s3 H).trans ?_
  rw[← hg,Crg.mul_comm]
  exact Cgr.refl _ _
 have s5:Dvs M ((γ-g)*(γ+g)):=by
  have h1:Dvs M (A*((γ-g)*(γ+g))):=by
   rw[show A*((γ-g)*(γ+g))=A*(γ*γ)-A*(g*g)from RE.eq [A,γ,g] (t0*((t1-t2)*(t1+t2))) (t0*(t1*t1)-t0*(t2*t2)) rfl]
   exact s4
  exact Cop.dvs (b:=A) (Cop.symm ⟨u,v,hu⟩) h1
 have s6:Cgr Y γ 1:=by
  have h1:Cgr Y T 0:=Cgr.zero.2 (by rw[hT];exact(Dvs.refl Y).mul' u)
  have h2:=ev_cgr h1 G
  rw[ev_at_zero,g0,← hγ]at h2
  exact h2
 have s7:Cop (γ+g) Y:=by
  obtain⟨w,hw⟩:=s6.add hg1
  refine⟨C half,-(C half*w),?_⟩
  have e:C half*(γ+g) + -(C half*w)*Y=C half*(γ+g-(1+1))+(C half+C half)-C half*(Y*w):=RE.eq [C half,γ,g,w,Y] (t0*(t1+t2) + -(t0*t3)*t4) (t0*(t1+t2-(1+1))+(t0+t0)-t0*(t4*t3)) rfl
  rw[e,hw,← C_add,hh]
  exact RE.eq [C half*(Y*w)] (t0+1-t0) 1 rfl
 have s8:Dvs M (γ-g):=by
  rw[hM]at s5 ⊢
  rw[Crg.mul_comm]at s5
  exact(s7.pw _).symm.dvs s5
 exact Cgr.symm s8
def In (M Y:Pol K) (L:Nat) (h:Pol K):Prop:=∃ H:Pol (Pol K),(∀ e,(H.f e).len≤L)/\Cgr M h (ev (fun c=>c) Y H)
namespace In
variable {M Y:Pol K} {L:Nat} {h k:Pol K}
theorem mono {L':Nat} (hL:L≤L') (a:In M Y L h):In M Y L' h:=by
 obtain⟨H,h1,h2⟩:=a
 exact⟨H,fun e=>Nat.le_trans (h1 e) hL,h2⟩
theorem add (a:In M Y L h) (b:In M Y L k):In M Y L (h+k):=by
 obtain⟨H,h1,h2⟩:=a
 obtain⟨H',h3,h4⟩:=b
 refine⟨H+H',fun e=>?_,?_⟩
 ·have:=len_add (H.f e) (H'.f e)
  have:=h1 e
  have:=h3 e
  rw[f_add]
  omega
 ·rw[(ev_id_hm Y).add]
  exact h2.add h4
theorem zero:In M Y L 0:=⟨0,fun e=>by rw[f_zero,len_zero];omega,by rw[(ev_id_hm Y).zero];exact Cgr.refl _ _⟩
theorem mul {s:Nat} {c:Pol K} (hc:c.len≤s+1) (a:In M Y L h):In M Y (L+s) (c*h):=by
 obtain⟨H,h1,h2⟩:=a
 refine⟨C c*H,fun e=>?_,?_⟩
 ·have:=len_mul_le c (H.f e)
  have:=h1 e
  rw[C_mul]
  omega
 ·rw[(ev_id_hm Y).mul,ev_C Hm.id]
  exact(Cgr.refl _ _).mul h2
theorem mulY (a:In M Y L h):In M Y L (Y*h):=by
 obtain⟨H,h1,h2⟩:=a
 refine⟨X*H,fun e=>?_,?_⟩
 ·show((mn 1 1*H:Pol (Pol K)).f e).len≤L
  rw[mn_mul]
  split
  ·rw[one_mul];exact h1 _
  ·rw[len_zero];omega
 ·rw[(ev_id_hm Y).mul,ev_X Hm.id]
  exact(Cgr.refl _ _).mul h2
theorem const {c:Pol K} (hc:c.len≤L):In M Y L c:=⟨C c,fun e=>by
 show(if e=0 then c else 0).len≤L
 split
 ·exact hc
 ·rw[len_zero];omega,by rw[ev_C Hm.id];exact Cgr.refl _ _⟩
end In
theorem len_X:(X:Pol K).len≤2:=len_mn 1 1
theorem In.mulXY {M Y:Pol K} {L:Nat} {h:Pol K} (a:In M Y L h):In M Y (L+1) ((X+Y)*h):=by
 rw[add_mul]
 exact(In.mul (s:=1) len_X a).add ((In.mulY a).mono (by omega))
theorem In.mulXYn {M Y : Pol K} {L : Nat} {h : Pol K} (a : In M Y L h) : ∀ n, In M Y (L + n) (pw (X + Y) n * h)
 | 0=>by
  show In M Y (L+0) (1*h)
  rw[one_mul]
  exact a
 | n+1=>by
  show In M Y (L+n+1) (pw (X+Y) n*(X+Y)*h)
  rw[Crg.mul_comm (pw (X+Y) n),Crg.mul_assoc]
  exact(In.mulXYn a n).mulXY
theorem root_in {D l:Nat} {A g Y u v:Pol K} {G:Pol (Pol K)} (hu:u*A+v*pw Y (l+1)=1) (hA:A.len≤D+1) (gb:∀ e,(G.f e).len≤e*D+1) (gz:∀ e,l+1≤e->G.f e=0) (hg:Cgr (pw Y (l+1)) g (ev (fun c=>c) (u*Y) G)):In (pw Y (l+1)) Y ((l+1)*D+1) (pw A (l+1)*g):=by
 obtain⟨M,hM⟩:∃ M,M=pw Y (l+1):=⟨_,rfl⟩
 rw[← hM]at hu hg ⊢
 have s3:Cgr M (A*(u*Y)) Y:=⟨-(v*Y),by
  have e:A*(u*Y)-Y=(u*A+v*M)*Y-Y-v*M*Y:=RE.eq [A,u,Y,v,M] (t0*(t1*t2)-t2) ((t1*t0+t3*t4)*t2-t2-t3*t4*t2) rfl
  rw[e,hu,one_mul,sub_self]
  exact RE.eq [v,M,Y] (0-t0*t1*t2) (t1 * -(t0*t2)) rfl⟩
 refine⟨cut (fun e=>G.f e*pw A (l+1-e)) (l+1),fun e=>?_,?_⟩
 ·show(if e<l+1 then G.f e*pw A (l+1-e)else 0).len≤_
  split
  ·have h1:=len_mul_le (G.f e) (pw A (l+1-e))
   have h2:=gb e
   have h3:=len_pw hA (l+1-e)
   have h4:e*D+(l+1-e)*D=(l+1)*D:=by rw[← Nat.add_mul,show e+(l+1-e)=l+1 by omega]
   omega
  ·rw[len_zero];omega
 ·refine((Cgr.refl M _).mul hg).trans ?_
  rw[ev_le Hm.id (u*Y) (a:=G) (n:=l+1) gz,ev_le Hm.id Y (n:=l+1) (fun j hj=>if_neg (by omega)),mul_sm]
  refine sm_cgr fun i hi=>?_
  have e1:pw A (l+1)*(G.f i*pw (u*Y) i)=G.f i*pw A (l+1-i)*pw (A*(u*Y)) i:=by
   rw[mul_pw A,show pw A (l+1)=pw A (l+1-i)*pw A i by rw[← pw_add,show l+1-i+i=l+1 by omega]]
   exact RE.eq [pw A (l+1-i),pw A i,G.f i,pw (u*Y) i] (t0*t1*(t2*t3)) (t2*t0*(t1*t3)) rfl
  have e2:(cut (fun e=>G.f e*pw A (l+1-e)) (l+1)).f i=G.f i*pw A (l+1-i):=if_pos hi
  show Cgr M (pw A (l+1)*(G.f i*pw (u*Y) i)) ((cut (fun e=>G.f e*pw A (l+1-e)) (l+1)).f i*pw Y i)
  rw[e1,e2]
  exact(Cgr.refl _ _).mul (s3.pw i)
end
end Go.Proofs.YtibaocbpeaejkaaGreat
/- After Stepanov, the end: a polynomial with a simple irreducible divisor is not a square everywhere on a large field. Plain: no program. -/
namespace Go.Proofs.YtibaocbpeaejkaaGreat
open Crg Pol
section
variable {K:Type} [Fld K]
theorem len_pw_eq {Y : Pol K} (h : Y ≠ 0) : ∀ n, (pw Y n).len = n * (Y.len - 1) + 1 ∧ pw Y n ≠ 0
 | 0=>⟨by show(1:Pol K).len=_;rw[len_one,Nat.zero_mul],Pol.one_ne⟩
 | n+1=>by
  obtain⟨h1,h2⟩:=len_pw_eq h n
  have h3:=len_mul h2 h
  have h4:=len_pos h
  have h5:(n+1)*(Y.len-1)=n*(Y.len-1)+(Y.len-1):=Nat.succ_mul _ _
  refine⟨?_,fun e=>(domain e).elim h2 h⟩
  show(pw Y n*Y).len=_
  omega
theorem dvs_X {a:Pol K} (h:a.f 0=0):Dvs X a:=by
 obtain⟨q,hq⟩:=low_zero (E:=a) (l:=1) fun e he=>by rw[show e=0 by omega];exact h
 exact⟨q,hq⟩
theorem ev_C_zero (Z a:Pol K):Dvs Z (ev C Z a-C (a.f 0)):=by
 refine ind (Q:=fun a=>Dvs Z (ev C Z a-C (a.f 0))) ?_ (fun a b ha hb=>?_) (fun c k=>?_) a
 ·rw[(ev_hm C_hm Z).zero,f_zero,C_zero,sub_self]
  exact Dvs.zero Z
 ·rw[(ev_hm C_hm Z).add,f_add,C_add]
  have:=ha.add hb
  rwa [show ev C Z a-C (a.f 0)+(ev C Z b-C (b.f 0))=ev C Z a+ev C Z b-(C (a.f 0)+C (b.f 0))from RE.eq [ev C Z a,C (a.f 0),ev C Z b,C (b.f 0)] (t0-t1+(t2-t3)) (t0+t2-(t1+t3)) rfl]at this
 ·rw[ev_mn C_hm]
  cases k with
  | zero =>
   show Dvs Z (C c*1-C (if 0=0 then c else 0))
   rw[if_pos rfl,Crg.mul_one,sub_self]
   exact Dvs.zero Z
  | succ k =>
   show Dvs Z (C c*(pw Z k*Z)-C (if 0=k+1 then c else 0))
   rw[if_neg (by omega),C_zero,sub_zero]
   exact((Dvs.refl Z).mul' _).mul' _
theorem zero_all {A f g : Pol K} {Q b : Nat} (hf : Irr f) (f1 : Dvs f A) (f2 : ¬ Dvs (f * f) A) (hA : A ≠ 0) (h0 : A.f 0 ≠ 0) (hg : g * g * A = ev C (mn 1 Q) A) (hQ : 2 * b + A.len ≤ Q + 1) : ∀ (m : Nat) (r s : Nat → Pol K), (∀ i, i < m → (r i).len ≤ b ∧ (s i).len ≤ b) → sm (fun i => (r i + s i * g) * pw (mn 1 Q) i) m = 0 → ∀ i, i < m → r i = 0 ∧ s i = 0
 | 0,_,_,_,_,i,hi=>by omega
 | m+1,r,s,hb,e,i,hi=>by
  obtain⟨Z,hZ⟩:∃ Z:Pol K,Z=mn 1 Q:=⟨_,rfl⟩
  have lZ:Z.len=Q+1:=by
   rw[hZ]
   refine len_eq (fun j hj=>if_neg (by omega)) ?_
   show(if Q=Q then(1:K)else 0)≠0
   rw[if_pos rfl]
   exact Fld.one_ne
  rw[← hZ]at hg e
  obtain⟨S,hS⟩:∃ S,S=sm (fun i=>(r (i+1)+s (i+1)*g)*pw Z i) m:=⟨_,rfl⟩
  have e1:r 0+s 0*g+Z*S=0:=by
   rw[sm_head]at e
   rw[hS,mul_sm,← e]
   congr 1
   ·exact(Crg.mul_one _).symm
   ·refine sm_congr fun j _=>?_
    show Z*((r (j+1)+s (j+1)*g)*pw Z j)=(r (j+1)+s (j+1)*g)*(pw Z j*Z)
    exact RE.eq [Z,r (j+1)+s (j+1)*g,pw Z j] (t0*(t1*t2)) (t1*(t2*t0)) rfl
  have d1:Dvs Z (r 0+s 0*g):=⟨-S,by
   rw[show r 0+s 0*g=(r 0+s 0*g+Z*S)-Z*S from RE.eq [r 0+s 0*g,Z*S] t0 (t0+t1-t1) rfl,e1]
   exact RE.eq [Z,S] (0-t0*t1) (t0 * -t1) rfl⟩
  have d2:Dvs Z (r 0*r 0*A-C (A.f 0)*(s 0*s 0)):=by
   have h1:=d1.mul ((r 0-s 0*g)*A)
   have h2:=(ev_C_zero Z A).mul (s 0*s 0)
   rw[← hg]at h2
   have:=h1.add h2
   rwa [show(r 0+s 0*g)*((r 0-s 0*g)*A)+(g*g*A-C (A.f 0))*(s 0*s 0)=r 0*r 0*A-C (A.f 0)*(s 0*s 0)from RE.eq [r 0,s 0,g,A,C (A.f 0)] ((t0+t1*t2)*((t0-t1*t2)*t3)+(t2*t2*t3-t4)*(t1*t1)) (t0*t0*t3-t4*(t1*t1)) rfl]at this
  obtain⟨b1,b2⟩:=hb 0 (by omega)
  have d3:r 0*r 0*A-C (A.f 0)*(s 0*s 0)=0:=Classical.byContradiction fun hne=>by
   have h1:=d2.len hne
   have h2:=len_sub (r 0*r 0*A) (C (A.f 0)*(s 0*s 0))
   have h3:=len_mul_le (r 0*r 0) A
   have h4:=len_mul_le (r 0) (r 0)
   have h5:=len_mul_le (C (A.f 0)) (s 0*s 0)
   have h6:=len_mul_le (s 0) (s 0)
   have h7:(C (A.f 0):Pol K).len≤0+1:=len_mn _ 0
   have h8:=len_pos hA
   omega
  have z0:=sq_eq hf f1 f2 hA h0 _ (Nat.le_refl _) (sub_eq_zero.1 d3)
  have e2:Z*S=0:=by
   rw[z0.1,z0.2,zero_mul,Crg.add_zero,zero_add]at e1
   exact e1
  have e3:S=0:=(domain e2).resolve_left (ne_of_len (by omega))
  have ih:=zero_all hf f1 f2 hA h0 (hZ ▸ hg) hQ m (fun i=>r (i+1)) (fun i=>s (i+1)) (fun i hi=>hb (i+1) (by omega)) (by rw[← hZ,← hS,e3])
  cases i with
  | zero=>exact z0
  | succ i=>exact ih i (by omega)
theorem cut_len (g:Nat->K) (n:Nat):(cut g n).len≤n:=len_le fun j hj=>if_neg (by omega)
end
section
variable {p:Int} [hp:Prm p]
theorem half_ex (hq:p.toNat%2=1):∃ h:Zp p,h+h=1:=by
 have h2:=two_le (p:=p)
 refine⟨Zp.red ((p.toNat+1) / 2:Nat),?_⟩
 rw[← Zp.red_add,← Zp.red_one]
 refine Zp.red_eq.2 ?_
 have e:(((p.toNat+1) / 2:Nat):Int)+(((p.toNat+1) / 2:Nat):Int)=1+p:=by
  have:=hp.two
  omega
 rw[e,Int.add_emod_right]
noncomputable def tay (A:Pol (Zp p)):Pol (Pol (Zp p)):=ev (fun c=>C (C c)) (C X+X) A
theorem tay_ev (A y:Pol (Zp p)):ev (fun c=>c) y (tay A)=ev C (X+y) A :=
 hm_ext (Hm.comp (ev_hm CC_hm (C X+X)) (ev_id_hm y)) (ev_hm C_hm (X+y)) (fun c=>by rw[ev_C CC_hm,ev_C Hm.id,ev_C C_hm]) (by rw[ev_X CC_hm,(ev_id_hm y).add,ev_C Hm.id,ev_X Hm.id,ev_X C_hm]) A
theorem tay_zero (A:Pol (Zp p)):(tay A).f 0=A:=by
 rw[← ev_at_zero,tay_ev,Crg.add_zero]
 have:=val_frob 0 A
 rwa [Nat.pow_zero,pw_one,pw_one]at this
theorem cx_pw (i:Nat):∀ e,((pw (C X+X:Pol (Pol (Zp p))) i).f e).len≤i+1:=by
 induction i with
 | zero =>
  intro e
  show(if e=0 then(1:Pol (Zp p))else 0).len≤_
  split
  ·rw[len_one];omega
  ·rw[len_zero];omega
 | succ i ih =>
  intro e
  have e1:pw (C X+X:Pol (Pol (Zp p))) (i+1)=C X*pw (C X+X) i+mn 1 1*pw (C X+X) i:=by
   show pw (C X+X) i*(C X+X)=_
   exact RE.eq [pw (C X+X) i,C X,X] (t0*(t1+t2)) (t1*t0+t2*t0) rfl
  rw[e1,f_add,C_mul,mn_mul]
  have h1:=len_mul_le (X:Pol (Zp p)) ((pw (C X+X:Pol (Pol (Zp p))) i).f e)
  have h2:(X:Pol (Zp p)).len≤2:=len_X
  have h3:=ih e
  have h4:(if 1≤e then(1:Pol (Zp p))*(pw (C X+X:Pol (Pol (Zp p))) i).f (e-1)else 0).len≤i+1:=by
   split
   ·rw[one_mul];exact ih _
   ·rw[len_zero];omega
  have h5:=len_add (X*(pw (C X+X:Pol (Pol (Zp p))) i).f e) (if 1≤e then(1:Pol (Zp p))*(pw (C X+X:Pol (Pol (Zp p))) i).f (e-1)else 0)
  omega
theorem tay_bd {A:Pol (Zp p)} {D:Nat} (h:A.len≤D+1) (e:Nat):((tay A).f e).len≤D+1:=by
 unfold tay ev
 have key:∀ n,n≤A.len->((sm (fun i=>C (C (A.f i))*pw (C X+X:Pol (Pol (Zp p))) i) n).f e).len≤D+1:=by
  intro n
  induction n with
  | zero=>intro _;show(0:Pol (Zp p)).len≤_;rw[len_zero];omega
  | succ n ih =>
   intro hn
   have h1:=ih (by omega)
   have h2:=cx_pw (p:=p) n e
   have h3:((C (C (A.f n))*pw (C X+X:Pol (Pol (Zp p))) n).f e).len≤D+1:=by
    rw[C_mul]
    have h4:=len_mul_le (C (A.f n)) ((pw (C X+X:Pol (Pol (Zp p))) n).f e)
    have h5:(C (A.f n):Pol (Zp p)).len≤0+1:=len_mn _ 0
    omega
   have h6:=len_add ((sm (fun i=>C (C (A.f i))*pw (C X+X:Pol (Pol (Zp p))) i) n).f e) ((C (C (A.f n))*pw (C X+X:Pol (Pol (Zp p))) n).f e)
   show((sm (fun i=>C (C (A.f i))*pw (C X+X:Pol (Pol (Zp p))) i) n).f e+(C (C (A.f n))*pw (C X+X:Pol (Pol (Zp p))) n).f e).len≤_
   omega
 exact key _ (Nat.le_refl _)
theorem slice_eq {b N t:Nat} (hb:0<b) (ht:t<N*b):t / b<N/\t / b*b+t%b=t/\t%b<b:=by
 have h1:=Nat.div_add_mod t b
 rw[Nat.mul_comm]at h1
 exact⟨(Nat.div_lt_iff_lt_mul hb).2 ht,h1,Nat.mod_lt t hb⟩
theorem stepanov (hq:p.toNat%2=1) {d k:Nat} (hk:1≤k) (hd:1≤d) {A f:Pol (Zp p)} (lA:A.len≤2*d+1) (hf:Irr f) (f1:Dvs f A) (f2:¬ Dvs (f*f) A) (hA:A≠0) (h1:Cgr (fro p k) (pw A ((p.toNat^k-1) / 2)) 1) (hQ:36*(d*d)+14*d+2≤p.toNat^k):False:=by
 have h2:=two_le (p:=p)
 obtain⟨half,hh⟩:=half_ex hq
 have lY:=fro_len (p:=p) hk
 have hY0:fro p k≠0:=ne_of_len (by omega)
 have hodd:p.toNat^k%2=1:=by
  rw[Nat.pow_mod,hq,Nat.one_pow]
 have hXY:(mn 1 (p.toNat^k):Pol (Zp p))=X+fro p k:=by
  rw[← pw_X]
  exact RE.eq [pw X (p.toNat^k),X] t0 (t1+(t0-t1)) rfl
 have hgA:pw A ((p.toNat^k-1) / 2)*pw A ((p.toNat^k-1) / 2)*A=ev C (mn 1 (p.toNat^k)) A:=by
  rw[← pw_X,val_frob,← pw_add]
  show pw A ((p.toNat^k-1) / 2+(p.toNat^k-1) / 2+1)=_
  rw[show(p.toNat^k-1) / 2+(p.toNat^k-1) / 2+1=p.toNat^k by omega]
 have lg:=len_pw lA ((p.toNat^k-1) / 2)
 have copA:Cop A (fro p k):=by
  obtain⟨w,hw⟩:=h1
  obtain⟨m,hm⟩:∃ m,(p.toNat^k-1) / 2=m+1:=⟨(p.toNat^k-1) / 2-1,by omega⟩
  rw[hm]at hw
  refine⟨pw A m,-w,?_⟩
  have hw:pw A m*A-1=fro p k*w:=hw
  rw[show pw A m*A + -w*fro p k=pw A m*A-1-fro p k*w+1 from RE.eq [pw A m,A,w,fro p k] (t0*t1 + -t2*t3) (t0*t1-1-t3*t2+1) rfl,hw]
  exact RE.eq [fro p k*w] (t0-t0+1) 1 rfl
 have hA0:A.f 0≠0:=fun e=>by
  have a1:=dvs_X e
  have a2:Dvs X (fro p k):=by
   refine dvs_X ?_
   show(pw X (p.toNat^k)).f 0-(X:Pol (Zp p)).f 0=0
   rw[pw_X]
   show(if 0=p.toNat^k then(1:Zp p)else 0)-(if 0=1 then 1 else 0)=0
   rw[if_neg (by omega),if_neg (by omega),sub_self]
  obtain⟨u,v,huv⟩:=copA
  have a3:Dvs X (1:Pol (Zp p)):=by
   rw[← huv]
   exact(a1.mul' u).add (a2.mul' v)
  have a4:=a3.len Pol.one_ne
  rw[len_one]at a4
  have a5:(X:Pol (Zp p)).len=1+1:=len_eq (fun j hj=>if_neg (by omega)) (by show(if 1=1 then(1:Zp p)else 0)≠0;rw[if_pos rfl];exact Fld.one_ne)
  omega
 have hg2:pw A ((p.toNat^k-1) / 2)*pw A ((p.toNat^k-1) / 2)*A=ev (fun c=>c) (fro p k) (tay A):=by rw[hgA,tay_ev,← hXY]
 generalize pw A ((p.toNat^k-1) / 2)=g at *
 generalize fro p k=Y at *
 generalize p.toNat^k=Q at *
 obtain⟨l,hl⟩:∃ l,3*d=l+1:=⟨3*d-1,by omega⟩
 obtain⟨u,v,huv⟩:=copA.pw (l+1)
 obtain⟨G,gb,gz,gc⟩:=root_val hh huv lA (tay_zero A) (tay_bd lA) hg2 h1
 have i1:=root_in huv lA gb gz gc
 have i0:In (pw Y (l+1)) Y ((l+1)*(2*d)+1) (pw A (l+1)):=In.const (len_pw lA _)
 obtain⟨M,hM⟩:∃ M,M=pw Y (l+1):=⟨_,rfl⟩
 rw[← hM]at i1 i0
 obtain⟨b,hb⟩:∃ b,b=18*(d*d)+6*d+1:=⟨_,rfl⟩
 obtain⟨L,hL⟩:∃ L,L=(l+1)*(2*d)+1+(b-1)+2*d:=⟨_,rfl⟩
 let sl:Pol (Zp p)->Nat->Pol (Zp p):=fun W t=>cut (fun j=>W.f (t*b+j)) b
 let R:Pol (Zp p)->Nat->Pol (Zp p):=fun W n=>sm (fun i=>(sl W (2*i)+sl W (2*i+1)*g)*pw (mn 1 Q) i) n
 have hin:∀ W n,n≤2*d->In M Y L (pw A (l+1)*R W n):=by
  intro W n
  induction n with
  | zero =>
   intro _
   show In M Y L (pw A (l+1)*0)
   rw[mul_zero]
   exact In.zero
  | succ n ih =>
   intro hn
   have e1:pw A (l+1)*R W (n+1)=pw A (l+1)*R W n+pw (X+Y) n*(sl W (2*n)*pw A (l+1)+sl W (2*n+1)*(pw A (l+1)*g)):=by
    show pw A (l+1)*(R W n+(sl W (2*n)+sl W (2*n+1)*g)*pw (mn 1 Q) n)=_
    rw[hXY]
    exact RE.eq [pw A (l+1),R W n,sl W (2*n),sl W (2*n+1),g,pw (X+Y) n] (t0*(t1+(t2+t3*t4)*t5)) (t0*t1+t5*(t2*t0+t3*(t0*t4))) rfl
   rw[e1]
   refine(ih (by omega)).add ?_
   have c1:(sl W (2*n)).len≤b-1+1:=by have:=cut_len (fun j=>W.f (2*n*b+j)) b;show(cut _ b).len≤_;omega
   have c2:(sl W (2*n+1)).len≤b-1+1:=by have:=cut_len (fun j=>W.f ((2*n+1)*b+j)) b;show(cut _ b).len≤_;omega
   exact(((In.mul c1 i0).add (In.mul c2 i1)).mulXYn n).mono (by omega)
 have hLl:(l+1)*L<4*d*b:=by
  rw[← hl]at hL ⊢
  have e1:3*d*L=3*d*(3*d*(2*d)+2*d+b):=by rw[hL];congr 1;omega
  have e2:3*d*(3*d*(2*d)+2*d+b)=3*(d*(6*(d*d)+2*d))+3*(d*b):=by
   have:3*d*(2*d)=6*(d*d):=by rw[Nat.mul_mul_mul_comm]
   rw[this,Nat.mul_assoc,Nat.mul_add d]
   omega
  have e3:4*d*b=3*(d*b)+d*b:=by rw[Nat.mul_assoc];omega
  have e4:3*(d*(6*(d*d)+2*d))<d*b:=by
   have:3*(d*(6*(d*d)+2*d))=d*(18*(d*d)+6*d):=by
    rw[show 18*(d*d)+6*d=3*(6*(d*d)+2*d)by omega,Nat.mul_left_comm]
   rw[this]
   exact Nat.mul_lt_mul_of_pos_left (by omega) (by omega)
  omega
 have hL0:0<L:=by omega
 let HW:Pol (Zp p)->Pol (Pol (Zp p)):=fun W=>(hin W (2*d) (Nat.le_refl _)).choose
 have HW1:∀ W e,((HW W).f e).len≤L:=fun W=>(hin W (2*d) (Nat.le_refl _)).choose_spec.1
 have HW2:∀ W,Cgr M (pw A (l+1)*R W (2*d)) (ev (fun c=>c) Y (HW W)):=fun W=>(hin W (2*d) (Nat.le_refl _)).choose_spec.2
 let ZW:Pol (Zp p)->Pol (Zp p):=fun W=>cut (fun t=>((HW W).f (t / L)).f (t%L)) ((l+1)*L)
 obtain⟨n1,n2,a1,a2,a3⟩:=pigeon' (M:=p.toNat^((l+1)*L)) (N:=p.toNat^(4*d*b)) (fun n=>cdp (ZW (dgp p n)) ((l+1)*L)) (Nat.pow_lt_pow_right (by omega) hLl) fun n _=>cdp_lt _ _
 have a3:cdp (ZW (dgp p n1)) ((l+1)*L)=cdp (ZW (dgp p n2)) ((l+1)*L):=a3
 have zz:ZW (dgp p n1)=ZW (dgp p n2):=by
  have z1:dgp p (cdp (ZW (dgp p n1)) ((l+1)*L))=ZW (dgp p n1):=dgp_cdp (cut_len _ _)
  have z2:dgp p (cdp (ZW (dgp p n2)) ((l+1)*L))=ZW (dgp p n2):=dgp_cdp (cut_len _ _)
  rw[← z1,← z2,a3]
 have hH:∀ e,e<l+1->(HW (dgp p n1)).f e=(HW (dgp p n2)).f e:=fun e he=>Pol.ext fun j=>by
  rcases Nat.lt_or_ge j L with hj | hj
  ·have ht:e*L+j<(l+1)*L:=by
    have:=Nat.mul_le_mul_right L (show e+1≤l+1 from he)
    rw[Nat.succ_mul]at this
    omega
   have e1:=congrArg (fun a:Pol (Zp p)=>a.f (e*L+j)) zz
   have e1:(if e*L+j<(l+1)*L then((HW (dgp p n1)).f ((e*L+j) / L)).f ((e*L+j)%L)else 0)=if e*L+j<(l+1)*L then((HW (dgp p n2)).f ((e*L+j) / L)).f ((e*L+j)%L)else 0:=e1
   rw[if_pos ht,if_pos ht,Nat.mul_comm e L,Nat.mul_add_div hL0,Nat.div_eq_of_lt hj,Nat.add_zero,Nat.mul_add_mod,Nat.mod_eq_of_lt hj]at e1
   exact e1
  ·rw[len_out _ j (Nat.le_trans (HW1 _ e) hj),len_out _ j (Nat.le_trans (HW1 _ e) hj)]
 have c1:Cgr M (ev (fun c=>c) Y (HW (dgp p n1))) (ev (fun c=>c) Y (HW (dgp p n2))):=by
  obtain⟨q,hq'⟩:=low_zero (E:=HW (dgp p n1)-HW (dgp p n2)) (l:=l+1) fun e he=>by rw[f_sub,hH e he,sub_self]
  show Dvs M (_-_)
  rw[← (ev_id_hm Y).sub,hq',(ev_id_hm Y).mul,ev_mn Hm.id,one_mul,← hM]
  exact(Dvs.refl M).mul _
 have c2:Dvs M (pw A (l+1)*(R (dgp p n1) (2*d)-R (dgp p n2) (2*d))):=by
  have:=((HW2 (dgp p n1)).trans c1).trans (HW2 (dgp p n2)).symm
  rw[show pw A (l+1)*(R (dgp p n1) (2*d)-R (dgp p n2) (2*d))=pw A (l+1)*R (dgp p n1) (2*d)-pw A (l+1)*R (dgp p n2) (2*d)from RE.eq [pw A (l+1),R (dgp p n1) (2*d),R (dgp p n2) (2*d)] (t0*(t1-t2)) (t0*t1-t0*t2) rfl]
  exact this
 have c3:Dvs M (R (dgp p n1) (2*d)-R (dgp p n2) (2*d)):=by
  have cm:Cop M A:=by
   rw[hM]
   exact Cop.symm ⟨u,v,huv⟩
  exact(cm.pw _).dvs c2
 obtain⟨W,hW⟩:∃ W,W=dgp p n1-dgp p n2:=⟨_,rfl⟩
 have slw:∀ t,sl W t=sl (dgp p n1) t-sl (dgp p n2) t:=fun t=>Pol.ext fun j=>by
  show(if j<b then W.f (t*b+j)else 0)=(if j<b then(dgp p n1).f (t*b+j)else 0)-if j<b then(dgp p n2).f (t*b+j)else 0
  rw[hW]
  split
  ·rfl
  ·exact(sub_self _).symm
 have hRW:∀ n,R W n=R (dgp p n1) n-R (dgp p n2) n:=by
  intro n
  induction n with
  | zero=>exact(sub_self (0:Pol (Zp p))).symm
  | succ n ih =>
   show R W n+(sl W (2*n)+sl W (2*n+1)*g)*pw (mn 1 Q) n=R (dgp p n1) n+(sl (dgp p n1) (2*n)+sl (dgp p n1) (2*n+1)*g)*pw (mn 1 Q) n-(R (dgp p n2) n+(sl (dgp p n2) (2*n)+sl (dgp p n2) (2*n+1)*g)*pw (mn 1 Q) n)
   rw[ih,slw,slw]
   generalize (pw (mn 1 Q) n:Pol (Zp p))=z
   generalize R (dgp p n1) n=x1
   generalize R (dgp p n2) n=x2
   have key:∀ y1 y2 w1 w2:Pol (Zp p),x1-x2+(y1-y2+(w1-w2)*g)*z=x1+(y1+w1*g)*z-(x2+(y2+w2*g)*z):=fun y1 y2 w1 w2=>RE.eq [x1,x2,y1,y2,w1,w2,g,z] (t0-t1+(t2-t3+(t4-t5)*t6)*t7) (t0+(t2+t4*t6)*t7-(t1+(t3+t5*t6)*t7)) rfl
   exact key _ _ _ _
 rw[← hRW]at c3
 have lM:M.len=3*d*Q+1:=by
  rw[hM,(len_pw_eq hY0 (l+1)).1,lY,hl,Nat.add_sub_cancel]
 have lR:∀ n,(R W (n+1)).len≤b+(Q-1) / 2*(2*d)+n*Q:=by
  intro n
  have step:∀ n,((sl W (2*n)+sl W (2*n+1)*g)*pw (mn 1 Q) n).len≤b+(Q-1) / 2*(2*d)+n*Q:=fun n=>by
   have c1:(sl W (2*n)).len≤b:=cut_len (fun j=>W.f (2*n*b+j)) b
   have c2:(sl W (2*n+1)).len≤b:=cut_len (fun j=>W.f ((2*n+1)*b+j)) b
   have c3:=len_mul_le (sl W (2*n+1)) g
   have c4:=len_add (sl W (2*n)) (sl W (2*n+1)*g)
   have c5:=len_mul_le (sl W (2*n)+sl W (2*n+1)*g) (pw (mn 1 Q) n)
   have c6:=len_pw (len_mn (1:Zp p) Q) n
   omega
  induction n with
  | zero =>
   have:=len_add (R W 0) ((sl W (2*0)+sl W (2*0+1)*g)*pw (mn 1 Q) 0)
   have h3:=step 0
   have h4:(R W 0).len=0:=len_zero
   show(R W 0+(sl W (2*0)+sl W (2*0+1)*g)*pw (mn 1 Q) 0).len≤_
   omega
  | succ n ih =>
   have:=len_add (R W (n+1)) ((sl W (2*(n+1))+sl W (2*(n+1)+1)*g)*pw (mn 1 Q) (n+1))
   have h3:=step (n+1)
   have h5:(n+1)*Q=n*Q+Q:=Nat.succ_mul n Q
   show(R W (n+1)+(sl W (2*(n+1))+sl W (2*(n+1)+1)*g)*pw (mn 1 Q) (n+1)).len≤_
   omega
 have hR0:R W (2*d)=0:=Classical.byContradiction fun hne=>by
  have e1:=c3.len hne
  obtain⟨n,hn⟩:∃ n,2*d=n+1:=⟨2*d-1,by omega⟩
  have e2:=lR n
  rw[← hn]at e2
  have e3:(Q-1) / 2*(2*d)+d≤d*Q:=by
   have:((Q-1) / 2*2+1)*d≤Q*d:=Nat.mul_le_mul_right d (by omega)
   rw[Nat.add_mul,Nat.one_mul,Nat.mul_assoc,Nat.mul_comm Q d]at this
   exact this
  have e4:n*Q+Q=2*(d*Q):=by
   rw[← Nat.succ_mul,Nat.succ_eq_add_one,← hn,Nat.mul_assoc]
  have e5:3*d*Q=3*(d*Q):=Nat.mul_assoc 3 d Q
  omega
 have hall:=zero_all hf f1 f2 hA hA0 hgA (b:=b) (by omega) (2*d) (fun i=>sl W (2*i)) (fun i=>sl W (2*i+1)) (fun i _=>⟨cut_len _ _,cut_len _ _⟩) hR0
 have hsl:∀ t,t<4*d->sl W t=0:=fun t ht=>by
  have h3:=hall (t / 2) (by omega)
  rcases Nat.mod_two_eq_zero_or_one t with e | e
  ·have:=h3.1
   rwa [show 2*(t / 2)=t by omega]at this
  ·have:=h3.2
   rwa [show 2*(t / 2)+1=t by omega]at this
 have hW0:W=0:=Pol.ext fun t=>by
  rcases Nat.lt_or_ge t (4*d*b)with ht | ht
  ·obtain⟨e1,e2,e3⟩:=slice_eq (b:=b) (by omega) ht
   have e4:=congrArg (fun a:Pol (Zp p)=>a.f (t%b)) (hsl _ e1)
   have e4:(if t%b<b then W.f (t / b*b+t%b)else 0)=0:=e4
   rw[if_pos e3,e2]at e4
   exact e4
  ·have l1:=dgp_len (p:=p) (show n1<p.toNat^(4*d*b)by omega)
   have l2:=dgp_len (p:=p) a2
   rw[hW,f_sub,len_out _ t (by omega),len_out _ t (by omega),sub_self]
   rfl
 have:=dgp_inj (p:=p) (show n1<p.toNat^(4*d*b)by omega) a2 (sub_eq_zero.1 (hW ▸ hW0))
 omega
end
end Go.Proofs.YtibaocbpeaejkaaGreat
/- Where irreducible divisors of one degree are parted: a trial polynomial with a small number. Plain: no program. -/
namespace Go.Proofs.YtibaocbpeaejkaaGreat
open Crg Pol
section
variable {K:Type} [Fld K]
theorem monic_of {P:Pol K} (h:P≠0):∃ M:Pol K,M.len=P.len/\M.lead=1/\Dvs M P/\Dvs P M:=by
 have hl:=lead_ne h
 have hi:Fld.inv P.lead≠0:=fun e=>by
  have:=Fld.mul_inv _ hl
  rw[e,mul_zero]at this
  exact Fld.one_ne this.symm
 have hc:(C (Fld.inv P.lead):Pol K)≠0:=ne_of_len (by rw[len_C hi];omega)
 have hlen:(C (Fld.inv P.lead)*P).len=P.len:=by
  have:=len_mul hc h
  rw[len_C hi]at this
  omega
 refine⟨C (Fld.inv P.lead)*P,hlen,?_,⟨C P.lead,?_⟩,(Dvs.refl P).mul' _⟩
 ·show(C (Fld.inv P.lead)*P).f ((C (Fld.inv P.lead)*P).len-1)=1
  rw[hlen,C_mul]
  show Fld.inv P.lead*P.lead=1
  rw[Crg.mul_comm,Fld.mul_inv _ hl]
 ·rw[show C (Fld.inv P.lead)*P*C P.lead=C P.lead*C (Fld.inv P.lead)*P from RE.eq [C (Fld.inv P.lead),P,C P.lead] (t0*t1*t2) (t2*t0*t1) rfl,C_mul_C,Fld.mul_inv _ hl]
  exact(one_mul P).symm
theorem Pol.Irr.assoc {P M:Pol K} (h:Irr P) (h1:Dvs M P) (_:Dvs P M) (hl:M.len=P.len):Irr M:=by
 refine⟨by rw[hl];exact h.two,fun a b e=>?_⟩
 obtain⟨x,hx⟩:=h1
 have hM:M≠0:=fun e=>h.ne (by rw[hx,e,zero_mul])
 have hx0:x≠0:=fun e=>h.ne (by rw[hx,e,mul_zero])
 have ha:a≠0:=fun e'=>hM (by rw[e,e',zero_mul])
 have hb:b≠0:=fun e'=>hM (by rw[e,e',mul_zero])
 have l1:=len_mul hM hx0
 rw[← hx]at l1
 have hbx:b*x≠0:=fun e'=>(domain e').elim hb hx0
 have l2:=len_mul hb hx0
 rcases h.irr a (b*x) (by rw[hx,e,Crg.mul_assoc])with h3 | h3
 ·exact .inl h3
 ·exact .inr (by omega)
theorem Pol.Irr.eq {P M:Pol K} (hP:Irr P) (hM:Irr M) (lP:P.lead=1) (lM:M.lead=1) (h:Dvs P M):P=M:=by
 obtain⟨x,hx⟩:=h
 rcases hM.irr P x hx with h1 | h1
 ·have:=hP.two;omega
 ·have e:=eq_C (a:=x) (by omega)
  have hx0:x≠0:=ne_of_len (by omega)
  have h2:=lead_mul hP.ne hx0
  rw[← hx,lM,lP,one_mul]at h2
  have h3:x.lead=x.f 0:=by unfold lead;rw[h1]
  rw[hx,e,← h3,← h2]
  exact(Crg.mul_one P).symm
theorem lead_f {P:Pol K} {d:Nat} (h:P.len=d+1):P.f d=P.lead:=by unfold lead;rw[h,Nat.add_sub_cancel]
end
section
variable {p:Int} [hp:Prm p]
theorem sign_ex {f a:Pol (Zp p)} (hq:p.toNat%2=1) (hf:Irr f) (ha:¬ Dvs f a):∃ e:Zp p,(e=1∨e = -1)/\Cgr f (pw a ((p.toNat^(f.len-1)-1) / 2)) (C e):=by
 have h:=fermat_irr hf a
 have hodd:p.toNat^(f.len-1)%2=1:=by rw[Nat.pow_mod,hq,Nat.one_pow]
 generalize p.toNat^(f.len-1)=Q at *
 obtain⟨x,hx⟩:∃ x,x=pw a ((Q-1) / 2):=⟨_,rfl⟩
 have e:pw a Q-a=a*((x-1)*(x+1)):=by
  rw[show Q=(Q-1) / 2+(Q-1) / 2+1 by omega]
  show pw a ((Q-1) / 2+(Q-1) / 2)*a-a=_
  rw[pw_add,← hx]
  exact RE.eq [x,a] (t0*t0*t1-t1) (t1*((t0-1)*(t0+1))) rfl
 have h:Dvs f (pw a Q-a):=h
 rw[e]at h
 rw[← hx]
 rcases hf.prime ((hf.prime h).resolve_left ha)with h1 | h1
 ·exact⟨1,.inl rfl,h1⟩
 ·refine⟨-1,.inr rfl,?_⟩
  show Dvs f (x-C (-1))
  rw[C_hm.neg]
  show Dvs f (x - -1)
  rwa [show x - -1=x+1 from RE.eq [x] (t0 - -1) (t0+1) rfl]
theorem two_ne (hq:p.toNat%2=1):(1:Zp p) ≠ -1:=fun e=>by
 obtain⟨h,hh⟩:=half_ex hq
 have h1:(1:Zp p)+1=0:=by
  have:=congrArg (fun a:Zp p=>a+1) e
  rw[Crg.neg_add]at this
  exact this
 have h2:(1:Zp p)=0:=by
  rw[← hh,← Crg.mul_one h,← mul_add,h1,mul_zero]
 exact Fld.one_ne h2
theorem C_cgr {f:Pol (Zp p)} (hf:Irr f) {a b:Zp p} (h:Cgr f (C a) (C b)):a=b:=by
 refine sub_eq_zero.1 (Classical.byContradiction fun hne=>?_)
 have h:Dvs f (C a-C b):=h
 rw[← C_hm.sub]at h
 have:=h.len (ne_of_len (by rw[len_C hne];omega))
 have:=hf.two
 rw[len_C hne]at *
 omega
def Splits (f h:Pol (Zp p)):Prop:=∃ P S,Irr P/\Irr S/\Dvs P f/\Dvs S f/\Dvs P h/\¬ Dvs S h
theorem cdp_top {P:Pol (Zp p)} {d:Nat} (h:P.len=d+1):p.toNat^d≤cdp P (d+1):=by
 have h1:=len_top P h
 have h2:(P.f d).v.toNat≠0:=fun e=>h1 (Zp.v_zero.1 (by have:=(P.f d).r;omega))
 show _≤cdp P d+(P.f d).v.toNat*p.toNat^d
 have:=Nat.mul_le_mul_right (p.toNat^d) (show 1≤(P.f d).v.toNat by omega)
 omega
theorem cdp_monic {P:Pol (Zp p)} {d:Nat} (h:P.f d=1):cdp P (d+1)<2*p.toNat^d:=by
 have h1:(P.f d).v.toNat=1:=by
  rw[h]
  show(1%p).toNat=1
  rw[Int.emod_eq_of_lt (by omega) (by have:=hp.two;omega)]
  rfl
 have:=cdp_lt P d
 show cdp P d+(P.f d).v.toNat*p.toNat^d<_
 rw[h1]
 omega
theorem part_odd (hq:p.toNat%2=1) {d k:Nat} (hk:1≤k) (hkd:k<d) (hQ:36*(d*d)+14*d+2≤p.toNat^k) {f f1 f2:Pol (Zp p)} (i1:Irr f1) (i2:Irr f2) (m1:f1.lead=1) (m2:f2.lead=1) (l1:f1.len=d+1) (l2:f2.len=d+1) (hne:f1≠f2) (d1:Dvs f1 f) (d2:Dvs f2 f):∃ n,p.toNat≤n/\n<p.toNat^(k+1)/\Splits f (pw (dgp p n) ((p.toNat^d-1) / 2)-1):=by
 have h2:=two_le (p:=p)
 refine Classical.byContradiction fun hno=>?_
 have hns:∀ n,p.toNat≤n->n<p.toNat^(k+1)->¬ Splits f (pw (dgp p n) ((p.toNat^d-1) / 2)-1):=fun n a b c=>hno ⟨n,a,b,c⟩
 have hlk:=fro_len (p:=p) hk
 have hA:f1*f2≠0:=fun e=>(domain e).elim i1.ne i2.ne
 refine stepanov hq hk (d:=d) (by omega) (A:=f1*f2) (f:=f1) (by have:=len_mul i1.ne i2.ne;omega) i1 ⟨f2,rfl⟩ (fun⟨x,hx⟩=>hne ?_) hA ?_ hQ
 ·refine i1.eq i2 m1 m2 ⟨x,?_⟩
  rw[Crg.mul_assoc]at hx
  exact cancel i1.ne hx
 ·refine Sqf.dvs _ (Nat.le_refl _) (ne_of_len (by omega)) (fro_sqf hk) fun P0 hP0 hPd=>?_
  obtain⟨P,lP,mP,g1,g2⟩:=monic_of hP0.ne
  have iP:=hP0.assoc g1 g2 lP
  have ht:=iP.two
  refine g2.trans ?_
  have hjk:=(irr_dvs_fro iP).1 (g1.trans hPd)
  obtain⟨j,hj⟩:∃ j,P.len=j+1:=⟨P.len-1,by omega⟩
  rw[hj,Nat.add_sub_cancel]at hjk
  have hj1:1≤j:=by omega
  have hjle:j≤k:=Nat.le_of_dvd (by omega) hjk
  have hn1:=cdp_top hj
  have hn2:=cdp_lt P (j+1)
  have hdg:dgp p (cdp P (j+1))=P:=dgp_cdp (by omega)
  have hpj:p.toNat≤p.toNat^j:=by
   have:=Nat.pow_le_pow_right (n:=p.toNat) (by omega) hj1
   rwa [Nat.pow_one]at this
  have hpk:p.toNat^(j+1)≤p.toNat^(k+1):=Nat.pow_le_pow_right (by omega) (by omega)
  have hs:=hns (cdp P (j+1)) (by omega) (by omega)
  rw[hdg]at hs
  have nd:∀ {g:Pol (Zp p)},Irr g->g.len=d+1->¬ Dvs g P:=fun hg hl hd=>by
   have:=hd.len iP.ne
   omega
  have ndr:∀ {g:Pol (Zp p)},Irr g->g.lead=1->g.len=d+1->¬ Dvs P g:=fun hg mg hl hd=>by
   have:=iP.eq hg mP mg hd
   rw[this]at hj
   omega
  obtain⟨e1,c1,s1⟩:=sign_ex hq i1 (nd i1 l1)
  obtain⟨e2,c2,s2⟩:=sign_ex hq i2 (nd i2 l2)
  rw[l1,Nat.add_sub_cancel]at s1
  rw[l2,Nat.add_sub_cancel]at s2
  have he:e1=e2:=by
   have key:∀ {g g':Pol (Zp p)} {e e':Zp p},Irr g->Irr g'->Dvs g f->Dvs g' f->Cgr g (pw P ((p.toNat^d-1) / 2)) (C e)->Cgr g' (pw P ((p.toNat^d-1) / 2)) (C e')->e=1->e' = -1->False:=fun hg hg' dg dg' sg sg' h1 h1'=>by
    subst h1 h1'
    exact hs ⟨_,_,hg,hg',dg,dg',sg,fun h=>two_ne hq (C_cgr hg' ((Cgr.symm h).trans sg'))⟩
   rcases c1 with h1 | h1 <;> rcases c2 with h3 | h3
   ·rw[h1,h3]
   ·exact(key i1 i2 d1 d2 s1 s2 h1 h3).elim
   ·exact(key i2 i1 d2 d1 s2 s1 h3 h1).elim
   ·rw[h1,h3]
  obtain⟨e1',c1',s1'⟩:=sign_ex hq iP (ndr i1 m1 l1)
  obtain⟨e2',c2',s2'⟩:=sign_ex hq iP (ndr i2 m2 l2)
  rw[hj,Nat.add_sub_cancel]at s1' s2'
  obtain⟨s,hs0,hrec⟩:=recip (p:=p) (d:=d) (j:=j) hq
  have r1:=hrec i1 l1 (by rw[lead_f l1,m1]) iP hj (by rw[lead_f hj,mP]) s1 s1'
  have r2:=hrec i2 l2 (by rw[lead_f l2,m2]) iP hj (by rw[lead_f hj,mP]) s2 s2'
  have he':e1'=e2':=by
   have h1:s*e1'=s*e2':=by rw[r1,r2,he]
   refine sub_eq_zero.1 ((Fld.domain (a:=s) ?_).resolve_left hs0)
   rw[show s*(e1'-e2')=s*e1'-s*e2' from RE.eq [s,e1',e2'] (t0*(t1-t2)) (t0*t1-t0*t2) rfl,h1,sub_self]
  have hee:e1'*e2'=1:=by
   rw[← he']
   rcases c1' with h | h
   ·rw[h,Crg.mul_one]
   ·rw[h]
    exact RE.eq (α:=Zp p) [] (-1 * -1) 1 rfl
  have hsq:=s1'.mul s2'
  rw[← mul_pw,C_mul_C,hee]at hsq
  obtain⟨c,hc⟩:=hjk
  have hexp:(p.toNat^k-1) / 2=(p.toNat^j-1) / 2*geo (p.toNat^j) c:=by
   have hodd:p.toNat^j%2=1:=by rw[Nat.pow_mod,hq,Nat.one_pow]
   have h1:=geo_eq (p.toNat^j) c
   rw[← Nat.pow_mul,← hc]at h1
   obtain⟨h',hh⟩:∃ h',p.toNat^j-1=2*h':=⟨(p.toNat^j-1) / 2,by omega⟩
   rw[hh,Nat.mul_assoc]at h1
   rw[hh,← h1,Nat.mul_div_cancel_left _ (by decide),Nat.mul_div_cancel_left _ (by decide)]
  have hfin:=hsq.pw (geo (p.toNat^j) c)
  rw[← pw_mul,← hexp]at hfin
  have:pw (C 1:Pol (Zp p)) (geo (p.toNat^j) c)=1:=one_pw _
  rw[this]at hfin
  exact hfin
theorem part_ex (hp2:p.toNat≤65536) {d:Nat} (hd:1≤d) (hd2:d≤32) {f f1 f2:Pol (Zp p)} (i1:Irr f1) (i2:Irr f2) (m1:f1.lead=1) (m2:f2.lead=1) (l1:f1.len=d+1) (l2:f2.len=d+1) (hne:f1≠f2) (d1:Dvs f1 f) (d2:Dvs f2 f):∃ n,p.toNat≤n/\n<2^50/\(Splits f (dgp p n)∨p.toNat%2=1/\Splits f (pw (dgp p n) ((p.toNat^d-1) / 2)-1)):=by
 have h2:=two_le (p:=p)
 have own:2*p.toNat^d≤2^50->∃ n,p.toNat≤n/\n<2^50/\(Splits f (dgp p n)∨p.toNat%2=1/\Splits f (pw (dgp p n) ((p.toNat^d-1) / 2)-1)):=fun hle=>by
  have hn1:=cdp_top l1
  have hn2:=cdp_monic (P:=f1) (d:=d) (by rw[lead_f l1,m1])
  have hpd:p.toNat≤p.toNat^d:=by
   have:=Nat.pow_le_pow_right (n:=p.toNat) (by omega) hd
   rwa [Nat.pow_one]at this
  refine⟨cdp f1 (d+1),by omega,by omega,.inl ⟨f1,f2,i1,i2,d1,d2,?_,fun hdv=>hne ?_⟩⟩
  ·rw[dgp_cdp (by omega)]
   exact Dvs.refl f1
  ·rw[dgp_cdp (by omega)]at hdv
   exact(i2.eq i1 m2 m1 hdv).symm
 -- the least power of p that is large enough
 obtain⟨k,hk1,hk2,hk3⟩:∃ k,1≤k/\2^17≤p.toNat^k/\p.toNat^(k-1)<2^17:=by
  have key:∀ m,2^17≤p.toNat^m->∃ k,1≤k/\2^17≤p.toNat^k/\p.toNat^(k-1)<2^17:=by
   intro m
   induction m with
   | zero=>intro h;rw[Nat.pow_zero]at h;omega
   | succ m ih =>
    intro h
    rcases Nat.lt_or_ge (p.toNat^m) (2^17)with h1 | h1
    ·exact⟨m+1,by omega,h,h1⟩
    ·exact ih h1
  exact key 17 (Nat.pow_le_pow_left h2 17)
 obtain⟨k',rfl⟩:∃ k',k=k'+1:=⟨k-1,by omega⟩
 rw[Nat.add_sub_cancel]at hk3
 have e1:p.toNat^(k'+1)≤2^17*65536:=by rw[Nat.pow_succ];exact Nat.mul_le_mul (by omega) hp2
 rcases Nat.lt_or_ge (k'+1) d with hkd | hkd
 ·rcases Nat.mod_two_eq_zero_or_one p.toNat with hq | hq
  ·-- p is 2
   have hp0:p.toNat=2:=by
    have:p.toNat∣2*(p.toNat / 2):=⟨1,by omega⟩
    rcases prm_dvd this with h | h
    ·have:=Nat.le_of_dvd (by decide) h;omega
    ·have:=Nat.le_of_dvd (by omega) h;omega
   refine own ?_
   rw[hp0]
   exact Nat.le_trans (Nat.mul_le_mul_left 2 (Nat.pow_le_pow_right (by decide) hd2)) (by decide)
  ·obtain⟨n,h3,h4,h5⟩:=part_odd hq (k:=k'+1) (by omega) hkd (by
    have:=Nat.mul_le_mul hd2 hd2
    omega) i1 i2 m1 m2 l1 l2 hne d1 d2
   refine⟨n,h3,Nat.lt_of_lt_of_le h4 ?_,.inr ⟨hq,h5⟩⟩
   rw[Nat.pow_succ]
   exact Nat.le_trans (Nat.mul_le_mul e1 hp2) (by decide)
 ·refine own ?_
  have:=Nat.pow_le_pow_right (n:=p.toNat) (by omega) hkd
  omega
end
end Go.Proofs.YtibaocbpeaejkaaGreat
/- How often an irreducible polynomial divides; derivatives; the p-th root. Plain: no program. -/
namespace Go.Proofs.YtibaocbpeaejkaaGreat
open Crg Pol
section
variable {K:Type} [Fld K]
open Classical in
noncomputable def vlt (P f : Pol K) : Nat → Nat
 | 0=>0
 | n+1=>if Dvs (pw P (n+1)) f then n+1 else vlt P f n
noncomputable def val (P f:Pol K):Nat:=vlt P f f.len
theorem pw_dvs (P:Pol K) {a b:Nat} (h:a≤b):Dvs (pw P a) (pw P b):=⟨pw P (b-a),by rw[← pw_add,show a+(b-a)=b by omega]⟩
theorem val_iff {P f:Pol K} (hP:Irr P) (hf:f≠0) {e:Nat}:Dvs (pw P e) f↔e≤val P f:=by
 have key:∀ n,(e≤n->(Dvs (pw P e) f↔e≤vlt P f n)):=by
  intro n
  induction n with
  | zero =>
   intro he
   obtain rfl:e=0:=by omega
   exact⟨fun _=>Nat.le_refl _,fun _=>Dvs.one f⟩
  | succ n ih =>
   intro he
   unfold vlt
   split
   ·rename_i h
    exact⟨fun _=>he,fun _=>(pw_dvs P he).trans h⟩
   ·rename_i h
    by_cases e1:e=n+1
    ·subst e1
     have:vlt P f n≤n:=by
      clear ih he h
      induction n with
      | zero=>exact Nat.le_refl _
      | succ n ih =>
       unfold vlt
       split
       ·exact Nat.le_refl _
       ·omega
     exact⟨fun hd=>absurd hd h,fun hle=>by omega⟩
    ·exact ih (by omega)
 rcases Nat.lt_or_ge f.len e with h | h
 ·have h0:¬ Dvs (pw P e) f:=fun hd=>by
   have h1:=hd.len hf
   rw[(len_pw_eq hP.ne e).1]at h1
   have:=hP.two
   have:=Nat.mul_le_mul_left e (show 1≤P.len-1 by omega)
   omega
  have h1:vlt P f f.len≤f.len:=by
   have:∀ n,vlt P f n≤n:=by
    intro n
    induction n with
    | zero=>exact Nat.le_refl _
    | succ n ih =>
     unfold vlt
     split
     ·exact Nat.le_refl _
     ·omega
   exact this _
  exact⟨fun hd=>absurd hd h0,fun hle=>by unfold val at hle;omega⟩
 ·exact key _ h
theorem val_eq {P f:Pol K} (hP:Irr P) (hf:f≠0) {e:Nat} (h1:Dvs (pw P e) f) (h2:¬ Dvs (pw P (e+1)) f):val P f=e:=by
 have a:=(val_iff hP hf).1 h1
 have b:¬ e+1≤val P f:=fun h=>h2 ((val_iff hP hf).2 h)
 omega
theorem val_pos {P f:Pol K} (hP:Irr P) (hf:f≠0):Dvs P f↔1≤val P f:=by
 rw[← val_iff hP hf,pw_one]
theorem val_split {P f:Pol K} (hP:Irr P) (hf:f≠0):∃ h,f=pw P (val P f)*h/\¬ Dvs P h:=by
 obtain⟨h,e⟩:=(val_iff hP hf).2 (Nat.le_refl (val P f))
 refine⟨h,e,fun⟨x,hx⟩=>?_⟩
 have:Dvs (pw P (val P f+1)) f:=⟨x,by
  show f=pw P (val P f)*P*x
  rw[Crg.mul_assoc,← hx]
  exact e⟩
 have:=(val_iff hP hf).1 this
 omega
theorem val_of {P h:Pol K} (hP:Irr P) (hh:¬ Dvs P h) (e:Nat):val P (pw P e*h)=e:=by
 have hh0:h≠0:=fun e'=>hh (by rw[e'];exact Dvs.zero P)
 have h0:pw P e*h≠0:=fun e'=>(domain e').elim (len_pw_eq hP.ne e).2 hh0
 refine val_eq hP h0 ⟨h,rfl⟩ fun⟨x,hx⟩=>hh ⟨x,?_⟩
 refine cancel (len_pw_eq hP.ne e).2 ?_
 rw[hx]
 exact Crg.mul_assoc _ _ _
theorem val_mul {P a b:Pol K} (hP:Irr P) (ha:a≠0) (hb:b≠0):val P (a*b)=val P a+val P b:=by
 obtain⟨x,h1,h2⟩:=val_split hP ha
 obtain⟨y,h3,h4⟩:=val_split hP hb
 have e:a*b=pw P (val P a+val P b)*(x*y):=by
  rw[pw_add]
  conv=>lhs;rw[h1,h3]
  exact RE.eq [pw P (val P a),x,pw P (val P b),y] (t0*t1*(t2*t3)) (t0*t2*(t1*t3)) rfl
 rw[e]
 exact val_of hP (fun h=>(hP.prime h).elim h2 h4) _
theorem val_one {P:Pol K} (hP:Irr P):val P 1=0:=by
 have:=val_of (h:=1) hP hP.not_one 0
 rwa [show pw P 0*1=(1:Pol K)from Crg.mul_one 1]at this
theorem val_le {P a b:Pol K} (hP:Irr P) (hb:b≠0) (h:Dvs a b):val P a≤val P b:=by
 have ha:a≠0:=fun e=>by
  obtain⟨x,hx⟩:=h
  exact hb (by rw[hx,e,zero_mul])
 exact(val_iff hP hb).1 (((val_iff hP ha).2 (Nat.le_refl _)).trans h)
theorem dvs_of_val : ∀ (n : Nat) {a b : Pol K}, a.len ≤ n → a ≠ 0 → b ≠ 0 → (∀ P, Irr P → val P a ≤ val P b) → Dvs a b
 | 0,a,b,hn,ha,_,_=>absurd (len_nil (a:=a) (by omega)) ha
 | n+1,a,b,hn,ha,hb,h=>by
  rcases Nat.lt_or_ge a.len 2 with h1 | h1
  ·have:=len_pos ha
   obtain⟨w,hw,_⟩:=unit (a:=a) (by omega)
   exact⟨w*b,by rw[← Crg.mul_assoc,hw,one_mul]⟩
  obtain⟨P,hP,c,rfl⟩:=ex_irr a.len a (Nat.le_refl _) h1
  have hc:c≠0:=fun e=>ha (by rw[e,mul_zero])
  have hl:=len_mul hP.ne hc
  have ht:=hP.two
  have hPP:val P P=1:=by
   have:=val_of (h:=1) hP hP.not_one 1
   rwa [pw_one,Crg.mul_one]at this
  have h2:=h P hP
  rw[val_mul hP hP.ne hc,hPP]at h2
  obtain⟨b',rfl⟩:=(val_pos hP hb).2 (by omega)
  have hb':b'≠0:=fun e=>hb (by rw[e,mul_zero])
  have ih:=dvs_of_val n (a:=c) (b:=b') (by omega) hc hb' fun S hS=>by
   have:=h S hS
   rw[val_mul hS hP.ne hc,val_mul hS hP.ne hb']at this
   omega
  obtain⟨x,hx⟩:=ih
  exact⟨x,by rw[hx,Crg.mul_assoc]⟩
theorem eq_of_val {a b:Pol K} (ha:a≠0) (hb:b≠0) (la:a.lead=1) (lb:b.lead=1) (h:∀ P,Irr P->val P a=val P b):a=b:=by
 obtain⟨x,hx⟩:=dvs_of_val _ (Nat.le_refl _) ha hb fun P hP=>Nat.le_of_eq (h P hP)
 have h2:=(dvs_of_val _ (Nat.le_refl _) hb ha fun P hP=>Nat.le_of_eq (h P hP).symm).len ha
 have hx0:x≠0:=fun e=>hb (by rw[hx,e,mul_zero])
 have h3:=len_mul ha hx0
 rw[← hx]at h3
 have h4:=len_pos hx0
 have e:=eq_C (a:=x) (by omega)
 have h5:=lead_mul ha hx0
 rw[← hx,lb,la,one_mul]at h5
 have h6:x.lead=x.f 0:=by unfold lead;rw[show x.len=1 by omega]
 rw[hx,e,← h6,← h5]
 exact(Crg.mul_one a).symm
theorem sqf_val {a:Pol K} (ha:a≠0):Sqf a↔∀ P,Irr P->val P a≤1:=by
 refine⟨fun h P hP=>?_,fun h P hP hd=>?_⟩
 ·refine Classical.byContradiction fun hn=>h P hP ?_
  have:=(val_iff (e:=2) hP ha).2 (by omega)
  rwa [show pw P 2=P*P by show 1*P*P=P*P;rw[one_mul]]at this
 ·have h1:=h P hP
  rw[show P*P=pw P 2 by show P*P=1*P*P;rw[one_mul]]at hd
  have:=(val_iff hP ha).1 hd
  omega
end
section
variable {p:Int} [hp:Prm p]
noncomputable def rtp (a:Pol (Zp p)):Pol (Zp p):=⟨fun i=>a.f (p.toNat*i),a.len,fun j hj=>len_out a _ (by
 have h2:=two_le (p:=p)
 have:=Nat.mul_le_mul_right j (show 1≤p.toNat by omega)
 omega)⟩
theorem pw_p_f (b:Pol (Zp p)):(∀ i,(pw b p.toNat).f (p.toNat*i)=b.f i)/\∀ i,i%p.toNat≠0->(pw b p.toNat).f i=0:=by
 have h2:=two_le (p:=p)
 refine ind (Q:=fun b=>(∀ i,(pw b p.toNat).f (p.toNat*i)=b.f i)/\∀ i,i%p.toNat≠0->(pw b p.toNat).f i=0) ?_ (fun a b ha hb=>?_) (fun c k=>?_) b
 ·have e:pw (0:Pol (Zp p)) p.toNat=0:=by
   rw[show p.toNat=p.toNat-1+1 by omega]
   exact mul_zero _
  rw[e]
  exact⟨fun _=>rfl,fun _ _=>rfl⟩
 ·rw[frob1 Pol.nc_p]
  exact⟨fun i=>by rw[f_add,ha.1,hb.1,f_add],fun i hi=>by rw[f_add,ha.2 i hi,hb.2 i hi,Crg.add_zero]⟩
 ·rw[mn_X,mul_pw,C_pw,Zp.fermat,← pw_mul,← mn_X,← mn_X]
  refine⟨fun i=>?_,fun i hi=>?_⟩
  ·show(if p.toNat*i=k*p.toNat then c else 0)=if i=k then c else 0
   by_cases h:i=k
   ·rw[if_pos h,if_pos (by rw[h,Nat.mul_comm])]
   ·rw[if_neg h,if_neg fun e=>h (Nat.eq_of_mul_eq_mul_left (show 0<p.toNat by omega) (by rw[e,Nat.mul_comm]))]
  ·show(if i=k*p.toNat then c else 0)=0
   rw[if_neg fun e=>hi (by rw[e,Nat.mul_mod_left])]
theorem nc_ne {i:Nat} (h:i%p.toNat≠0):(nc i:Zp p)≠0:=fun e=>by
 rw[Zp.nc_red]at e
 have e:=Zp.red_eq_zero.1 e
 have h2:(p.toNat:Int)=p:=by have:=hp.two;omega
 rw[← h2]at e
 omega
theorem root_p {a:Pol (Zp p)} (h:dv a=0):pw (rtp a) p.toNat=a:=Pol.ext fun i=>by
 have h2:=two_le (p:=p)
 obtain⟨h3,h4⟩:=pw_p_f (rtp a)
 by_cases hi:i%p.toNat=0
 ·have e:i=p.toNat*(i / p.toNat):=by have:=Nat.div_add_mod i p.toNat;omega
  rw[e,h3]
  rfl
 ·rw[h4 i hi]
  cases i with
  | zero=>exact absurd (Nat.zero_mod _) hi
  | succ i =>
   have e:=congrArg (fun b:Pol (Zp p)=>b.f i) h
   have e:nc (i+1)*a.f (i+1)=0:=e
   exact((Fld.domain e).resolve_left (nc_ne hi)).symm
theorem dv_pw (a : Pol (Zp p)) : ∀ n, dv (pw a (n + 1)) = nc (n + 1) * (pw a n * dv a)
 | 0=>by
  show dv (1*a)=(0+1)*(1*dv a)
  rw[one_mul,zero_add,one_mul,one_mul]
 | n+1=>by
  show dv (pw a (n+1)*a)=(nc (n+1)+1)*(pw a n*a*dv a)
  rw[dv_mul,dv_pw a n]
  show _+pw a n*a*dv a=_
  exact RE.eq [nc (n+1),pw a n,dv a,a] (t0*(t1*t2)*t3+t1*t3*t2) ((t0+1)*(t1*t3*t2)) rfl
theorem dv_len (a:Pol (Zp p)):(dv a).len≤a.len-1:=len_le fun j hj=>by
 show nc (j+1)*a.f (j+1)=0
 rw[len_out a _ (by omega),mul_zero]
theorem irr_dv {P:Pol (Zp p)} (h:Irr P):¬ Dvs P (dv P):=fun hd=>by
 have h2:=two_le (p:=p)
 by_cases h0:dv P=0
 ·have e:=root_p h0
  have hr:rtp P≠0:=fun e'=>h.ne (by
   rw[← e,e',show p.toNat=p.toNat-1+1 by omega]
   exact mul_zero _)
  have hl:=(len_pw_eq hr p.toNat).1
  rw[e]at hl
  have ht:=h.two
  obtain⟨m,hm⟩:∃ m,p.toNat=m+1+1:=⟨p.toNat-2,by omega⟩
  rw[hm]at e
  have e:pw (rtp P) (m+1)*rtp P=P:=e
  have h1:=h.irr _ _ e.symm
  have h3:=(len_pw_eq hr (m+1)).1
  have h5:(rtp P).len≠1:=fun h=>by
   rw[h]at hl
   omega
  rcases h1 with h1 | h1
  ·have h6:=len_pos hr
   have:1≤(m+1)*((rtp P).len-1):=Nat.mul_pos (by omega) (by omega)
   omega
  ·exact h5 h1
 ·have h1:=hd.len h0
  have h3:=dv_len P
  have:=h.two
  omega
theorem Pol.nc_dvs {P:Pol (Zp p)} (h:Irr P) {n:Nat} (hn:n%p.toNat≠0):¬ Dvs P (nc n):=fun hd=>by
 rw[nc_C]at hd
 have h1:=hd.len (ne_of_len (by rw[len_C (nc_ne hn)];omega))
 rw[len_C (nc_ne hn)]at h1
 have:=h.two
 omega
theorem val_dv {P a:Pol (Zp p)} (hP:Irr P) (ha:a≠0) (hd:dv a≠0):(val P a%p.toNat=0->val P a≤val P (dv a))/\(val P a%p.toNat≠0->val P (dv a)+1=val P a):=by
 obtain⟨h,e,hh⟩:=val_split hP ha
 refine⟨fun h0=>?_,fun h0=>?_⟩
 ·refine(val_iff hP hd).1 ?_
  rw[e,dv_mul,val_of hP hh]
  cases hv:val P a with
  | zero=>exact Dvs.one _
  | succ n =>
   rw[hv]at h0
   rw[dv_pw,nc_C,show(nc (n+1):Zp p)=0 by
    rw[Zp.nc_red]
    refine Zp.red_eq_zero.2 ?_
    have h2:(p.toNat:Int)=p:=by have:=hp.two;omega
    rw[← h2]
    omega,C_zero,zero_mul,zero_mul,zero_add]
   exact⟨dv h,rfl⟩
 ·obtain⟨n,hv⟩:∃ n,val P a=n+1:=⟨val P a-1,by
   have:val P a≠0:=fun e=>h0 (by rw[e];exact Nat.zero_mod _)
   omega⟩
  rw[hv]at e h0 ⊢
  congr 1
  have e2:dv a=pw P n*(nc (n+1)*dv P*h+P*dv h):=by
   rw[e,dv_mul,dv_pw]
   show nc (n+1)*(pw P n*dv P)*h+pw P n*P*dv h=_
   exact RE.eq [nc (n+1),pw P n,dv P,h,P,dv h] (t0*(t1*t2)*t3+t1*t4*t5) (t1*(t0*t2*t3+t4*t5)) rfl
  rw[e2]
  refine val_of hP (fun hdv=>?_) n
  have h1:Dvs P (nc (n+1)*dv P*h):=by
   have:=hdv.sub (Dvs.mul (Dvs.refl P) (dv h))
   rwa [show nc (n+1)*dv P*h+P*dv h-P*dv h=nc (n+1)*dv P*h from RE.eq [nc (n+1),dv P,h,P*dv h] (t0*t1*t2+t3-t3) (t0*t1*t2) rfl]at this
  rcases hP.prime h1 with h3 | h3
  ·rcases hP.prime h3 with h4 | h4
   ·exact nc_dvs hP h0 h4
   ·exact irr_dv hP h4
  ·exact hh h3
end
end Go.Proofs.YtibaocbpeaejkaaGreat
/- The steps of a factorization modulo p: by multiplicity, by degree, and apart. Plain: no program. -/
namespace Go.Proofs.YtibaocbpeaejkaaGreat
open Crg Pol
section
variable {K:Type} [Fld K]
structure Gc (a b g : Pol K) : Prop where
 lead:g.lead=1
 ne:g≠0
 da:Dvs g a
 db:Dvs g b
 gr:∀ x,Dvs x a->Dvs x b->Dvs x g
theorem Gc.val {a b g P:Pol K} (h:Gc a b g) (hP:Irr P) (ha:a≠0) (hb:b≠0):val P g=min (val P a) (val P b):=by
 have h1:=val_le hP ha h.da
 have h2:=val_le hP hb h.db
 have h3:=(val_iff (e:=min (_root_.Go.Proofs.YtibaocbpeaejkaaGreat.val P a) (_root_.Go.Proofs.YtibaocbpeaejkaaGreat.val P b)) hP h.ne).1 (h.gr _ ((val_iff hP ha).2 (Nat.min_le_left _ _)) ((val_iff hP hb).2 (Nat.min_le_right _ _)))
 omega
theorem Gc.irr {a b g P:Pol K} (h:Gc a b g):Dvs P g↔Dvs P a/\Dvs P b:=⟨fun k=>⟨k.trans h.da,k.trans h.db⟩,fun k=>h.gr _ k.1 k.2⟩
theorem lead_quo {a b c:Pol K} (h:a=b*c) (ha:a≠0) (la:a.lead=1) (lc:c.lead=1):b≠0/\c≠0/\b.lead=1:=by
 have hb:b≠0:=fun e=>ha (by rw[h,e,zero_mul])
 have hc:c≠0:=fun e=>ha (by rw[h,e,mul_zero])
 refine⟨hb,hc,?_⟩
 have:=lead_mul hb hc
 rw[← h,la,lc,Crg.mul_one]at this
 exact this.symm
theorem lead_one:(1:Pol K).lead=1:=by
 unfold lead
 rw[len_one]
 rfl
theorem one_of_len {a:Pol K} (h0:a≠0) (h:a.len≤1) (hl:a.lead=1):a=1:=by
 have:=len_pos h0
 have e:=eq_C h
 unfold lead at hl
 rw[show a.len-1=0 by omega]at hl
 rw[e,hl]
 rfl
structure IrL (f : Pol K) (l : List (Pol K)) : Prop where
 all:∀ x∈l,Irr x/\x.lead=1/\Dvs x f
 mem:∀ P,Irr P->P.lead=1->Dvs P f->P∈l
 nd:l.Pairwise (·≠·)
theorem IrL.nil {f:Pol K} (h0:f≠0) (h:f.len≤1):IrL f [] :=
 ⟨fun x hx=>absurd hx (by simp),fun P hP _ hd=>by have:=hd.len h0;have:=hP.two;omega,List.Pairwise.nil⟩
theorem IrL.one {f:Pol K} (h:Irr f) (hl:f.lead=1):IrL f [f] :=
 ⟨fun x hx=>by rw[List.mem_singleton.1 hx];exact⟨h,hl,Dvs.refl f⟩,fun P hP lP hd=>by rw[hP.eq h lP hl hd];exact List.mem_singleton.2 rfl,List.pairwise_singleton _ _⟩
theorem IrL.app {f g h:Pol K} {l m:List (Pol K)} (hf:f=h*g) (hdis:∀ P,Irr P->Dvs P g->¬ Dvs P h) (a:IrL g l) (b:IrL h m):IrL f (l++m):=by
 have dg:Dvs g f:=⟨h,by rw[hf,Crg.mul_comm]⟩
 have dh:Dvs h f:=⟨g,hf⟩
 refine⟨fun x hx=>?_,fun P hP lP hd=>?_,?_⟩
 ·rcases List.mem_append.1 hx with h1 | h1
  ·obtain⟨h2,h3,h4⟩:=a.all x h1
   exact⟨h2,h3,h4.trans dg⟩
  ·obtain⟨h2,h3,h4⟩:=b.all x h1
   exact⟨h2,h3,h4.trans dh⟩
 ·rw[hf]at hd
  rcases hP.prime hd with h1 | h1
  ·exact List.mem_append.2 (.inr (b.mem P hP lP h1))
  ·exact List.mem_append.2 (.inl (a.mem P hP lP h1))
 ·refine List.pairwise_append.2 ⟨a.nd,b.nd,fun x hx y hy e=>?_⟩
  obtain⟨h2,_,h4⟩:=a.all x hx
  obtain⟨_,_,h5⟩:=b.all y hy
  exact hdis x h2 h4 (e ▸ h5)
theorem Pol.Sqf.of_dvs {a b:Pol K} (h:Sqf b) (d:Dvs a b):Sqf a:=fun P hP k=>h P hP (k.trans d)
theorem Pol.Sqf.dis {f g h:Pol K} (hs:Sqf f) (hf:f=h*g) {P:Pol K} (hP:Irr P) (hg:Dvs P g):¬ Dvs P h:=fun hh=>hs P hP (by
 obtain⟨x,rfl⟩:=hg
 obtain⟨y,rfl⟩:=hh
 exact⟨y*x,by rw[hf];exact RE.eq [P,y,x] (t0*t1*(t0*t2)) (t0*t0*(t1*t2)) rfl⟩)
structure Eqd (d : Nat) (f : Pol K) : Prop where
 ne:f≠0
 lead:f.lead=1
 sqf:Sqf f
 deg:∀ P,Irr P->Dvs P f->P.len=d+1
theorem Eqd.of_dvs {d:Nat} {f g:Pol K} (h:Eqd d f) (hd:Dvs g f) (hl:g.lead=1):Eqd d g :=
 ⟨fun e=>h.ne (by obtain⟨x,hx⟩:=hd;rw[hx,e,zero_mul]),hl,h.sqf.of_dvs hd,fun P hP k=>h.deg P hP (k.trans hd)⟩
theorem irr_of_small {P f:Pol K} (hP:Irr P) (hd:Dvs P f) (h0:f≠0) (hl:f.len≤P.len):Irr f:=by
 obtain⟨x,hx⟩:=hd
 have hx0:x≠0:=fun e=>h0 (by rw[hx,e,mul_zero])
 have h1:=len_mul hP.ne hx0
 rw[← hx]at h1
 have h2:=len_pos hx0
 obtain⟨w,hw,_⟩:=unit (a:=x) (by omega)
 refine hP.assoc ⟨w,?_⟩ ⟨x,hx⟩ (by omega)
 rw[hx,Crg.mul_assoc,hw,Crg.mul_one]
theorem Eqd.small {d:Nat} {f:Pol K} (h:Eqd d f) (hl:f.len≤d+1) (h2:2≤f.len):Irr f:=by
 obtain⟨P,hP,hd⟩:=ex_irr f.len f (Nat.le_refl _) h2
 exact irr_of_small hP hd h.ne (by have:=h.deg P hP hd;omega)
theorem Eqd.two {d:Nat} {f:Pol K} (h:Eqd d f) (hl:d+1<f.len) (hd1:1≤d):∃ P S,Irr P/\Irr S/\P.lead=1/\S.lead=1/\P.len=d+1/\S.len=d+1/\P≠S/\Dvs P f/\Dvs S f:=by
 have mk:∀ g:Pol K,Dvs g f->2≤g.len->∃ P,Irr P/\P.lead=1/\Dvs P g:=fun g hg h2=>by
  obtain⟨P,hP,hd⟩:=ex_irr g.len g (Nat.le_refl _) h2
  obtain⟨M,lM,mM,g1,g2⟩:=monic_of hP.ne
  exact⟨M,hP.assoc g1 g2 lM,mM,g1.trans hd⟩
 obtain⟨P,hP,mP,c,hc⟩:=mk f (Dvs.refl f) (by omega)
 have lP:=h.deg P hP ⟨c,hc⟩
 have hc0:c≠0:=fun e=>h.ne (by rw[hc,e,mul_zero])
 have h1:=len_mul hP.ne hc0
 rw[← hc]at h1
 obtain⟨S,hS,mS,hSc⟩:=mk c ⟨P,by rw[hc,Crg.mul_comm]⟩ (by omega)
 have dS:Dvs S f:=hSc.trans ⟨P,by rw[hc,Crg.mul_comm]⟩
 refine⟨P,S,hP,hS,mP,mS,lP,h.deg S hS dS,fun e=>?_,⟨c,hc⟩,dS⟩
 exact h.sqf.dis (h:=P) (g:=c) hc hS hSc (e ▸ Dvs.refl P)
end
section
variable {p:Int} [hp:Prm p]
theorem splits_gcd {f t g:Pol (Zp p)} (hs:Splits f t) (hg:Gc f t g) (hf:f≠0):1<g.len/\g.len<f.len:=by
 obtain⟨P,S,hP,hS,dP,dS,kP,kS⟩:=hs
 have h1:=(hg.gr P dP kP).len hg.ne
 have:=hP.two
 refine⟨by omega,?_⟩
 obtain⟨x,hx⟩:=hg.da
 have hx0:x≠0:=fun e=>hf (by rw[hx,e,mul_zero])
 have h2:=len_mul hg.ne hx0
 rw[← hx]at h2
 have h3:=len_pos hx0
 rcases Nat.lt_or_ge x.len 2 with h4 | h4
 ·obtain⟨w,hw,_⟩:=unit (a:=x) (by omega)
  have:Dvs f g:=⟨w,by rw[hx,Crg.mul_assoc,hw,Crg.mul_one]⟩
  exact absurd ((dS.trans this).trans hg.db) kS
 ·omega
theorem splits_cgr {f t s:Pol (Zp p)} (hs:Splits f t) (h:Cgr f t s):Splits f s:=by
 obtain⟨P,S,hP,hS,dP,dS,kP,kS⟩:=hs
 have key:∀ {Q a b:Pol (Zp p)},Dvs Q f->Cgr f a b->Dvs Q a->Dvs Q b:=fun hq h ha=>by
  have:=ha.sub (hq.trans h)
  rwa [show ∀ a b:Pol (Zp p),a-(a-b)=b from fun a b=>RE.eq [a,b] (t0-(t0-t1)) t1 rfl]at this
 exact⟨P,S,hP,hS,dP,dS,key dP h kP,fun k=>kS (key dS h.symm k)⟩
/-! ### By multiplicity -/
structure SqI (f : Pol (Zp p)) (e : Nat) (s r : Pol (Zp p)) : Prop where
 s0:s≠0
 sl:s.lead=1
 r0:r≠0
 rl:r.lead=1
 vs:∀ P,Irr P->val P s=if val P f%p.toNat≠0/\e≤val P f then 1 else 0
 vr:∀ P,Irr P->val P r=if val P f%p.toNat=0 then val P f else val P f-e
theorem SqI.start {f s r:Pol (Zp p)} (hf:f≠0) (lf:f.lead=1) (hd:dv f≠0) (hg:Gc f (dv f) r) (hs:f=s*r):SqI f 1 s r:=by
 obtain⟨s0,_,sl⟩:=lead_quo hs hf lf hg.lead
 have vr:∀ P,Irr P->val P r=if val P f%p.toNat=0 then val P f else val P f-1:=fun P hP=>by
  have h1:=hg.val hP hf hd
  obtain⟨h2,h3⟩:=val_dv hP hf hd
  split
  ·rename_i h
   have:=h2 h
   omega
  ·rename_i h
   have:=h3 h
   omega
 refine⟨s0,sl,hg.ne,hg.lead,fun P hP=>?_,vr⟩
 have h1:=val_mul hP s0 hg.ne
 rw[← hs,vr P hP]at h1
 split
 ·rename_i h
  rw[if_neg h.1]at h1
  omega
 ·rename_i h
  split at h1
  ·omega
  ·rename_i h4
   exact absurd ⟨h4,by
    rcases Nat.eq_zero_or_pos (val P f)with h5 | h5
    ·exact absurd (by rw[h5];exact Nat.zero_mod _) h4
    ·omega⟩ h
theorem SqI.step {f s r m o r':Pol (Zp p)} {e:Nat} (h:SqI f e s r) (hg:Gc s r m) (ho:s=o*m) (hr:r=r'*m):SqI f (e+1) m r'/\o≠0/\o.lead=1/\Sqf o/\Dvs o f/\∀ P,Irr P->(Dvs P o↔val P f%p.toNat≠0/\val P f=e):=by
 obtain⟨o0,_,ol⟩:=lead_quo ho h.s0 h.sl hg.lead
 obtain⟨r0,_,rl⟩:=lead_quo hr h.r0 h.rl hg.lead
 have vm:∀ P,Irr P->val P m=if val P f%p.toNat≠0/\e+1≤val P f then 1 else 0:=fun P hP=>by
  rw[hg.val hP h.s0 h.r0,h.vs P hP,h.vr P hP]
  split <;> split <;> split <;> omega
 have vo:∀ P,Irr P->val P o=if val P f%p.toNat≠0/\val P f=e then 1 else 0:=fun P hP=>by
  have h1:=val_mul hP o0 hg.ne
  rw[← ho,h.vs P hP,vm P hP]at h1
  split at h1 <;> split at h1 <;> split <;> omega
 have hf:∀ P,Irr P->val P o≤val P f:=fun P hP=>by
  rw[vo P hP]
  split
  ·rename_i h1
   rcases Nat.eq_zero_or_pos (val P f)with h5 | h5
   ·exact absurd (by rw[h5];exact Nat.zero_mod _) h1.1
   ·omega
  ·omega
 refine⟨⟨hg.ne,hg.lead,r0,rl,vm,fun P hP=>?_⟩,o0,ol,(sqf_val o0).2 fun P hP=>by rw[vo P hP];split <;> omega,?_,fun P hP=>?_⟩
 ·have h1:=val_mul hP r0 hg.ne
  rw[← hr,h.vr P hP,vm P hP]at h1
  split at h1 <;> split at h1 <;> split <;> omega
 ·by_cases hf0:f=0
  ·rw[hf0];exact Dvs.zero o
  ·exact dvs_of_val _ (Nat.le_refl _) o0 hf0 hf
 ·rw[val_pos hP o0,vo P hP]
  split
  ·rename_i h1;exact⟨fun _=>h1,fun _=>by omega⟩
  ·rename_i h1;exact⟨fun h=>by omega,fun h=>absurd h h1⟩
theorem SqI.fin {f s r:Pol (Zp p)} {e:Nat} (h:SqI f e s r) (hl:s.len≤1):∀ P,Irr P->(val P f%p.toNat≠0->val P f<e)/\val P r=if val P f%p.toNat=0 then val P f else 0:=fun P hP=>by
 have h1:=h.vs P hP
 rw[one_of_len h.s0 hl h.sl,val_one hP]at h1
 have key:val P f%p.toNat≠0->val P f<e:=fun h2=>by
  split at h1
  ·omega
  ·rename_i h3
   exact Nat.lt_of_not_le fun h4=>h3 ⟨h2,h4⟩
 refine⟨key,?_⟩
 rw[h.vr P hP]
 split
 ·rfl
 ·rename_i h2
  have:=key h2
  omega
/-! ### By degree -/
structure BdI (f : Pol (Zp p)) (d : Nat) (c w : Pol (Zp p)) : Prop where
 ne:c≠0
 lead:c.lead=1
 dv:Dvs c f
 irr:∀ P,Irr P->(Dvs P c↔Dvs P f/\d+1≤P.len)
 pow:Cgr c w (pw X (p.toNat^(d-1)))
theorem BdI.start {f:Pol (Zp p)} (hf:f≠0) (lf:f.lead=1):BdI f 1 f X :=
 ⟨hf,lf,Dvs.refl f,fun P hP=>⟨fun h=>⟨h,hP.two⟩,fun h=>h.1⟩,by rw[Nat.sub_self,Nat.pow_zero,pw_one];exact Cgr.refl _ _⟩
theorem BdI.step {f c w w' w'' g c':Pol (Zp p)} {d:Nat} (hd:1≤d) (hs:Sqf f) (h:BdI f d c w) (hw:Cgr c w' (pw w p.toNat)) (hg:Gc c (w'-X) g) (hc:c=c'*g) (hw2:Cgr c' w'' w'):BdI f (d+1) c' w''/\Eqd d g/\Dvs g f/\∀ P,Irr P->(Dvs P g↔Dvs P f/\P.len=d+1):=by
 obtain⟨c0,_,cl⟩:=lead_quo hc h.ne h.lead hg.lead
 have pw1:Cgr c w' (pw X (p.toNat^d)):=by
  refine hw.trans ?_
  have:=h.pow.pw p.toNat
  rwa [← pw_mul,← Nat.pow_succ,show(d-1).succ=d by omega]at this
 have key:∀ P,Irr P->(Dvs P g↔Dvs P f/\P.len=d+1):=fun P hP=>by
  have ht:=hP.two
  rw[hg.irr,h.irr P hP]
  have e:Dvs P f->d+1≤P.len->(Dvs P (w'-X)↔P.len-1∣d):=fun h1 h2=>by
   rw[← irr_dvs_fro hP]
   have hPc:Dvs P c:=(h.irr P hP).2 ⟨h1,h2⟩
   have hc1:Cgr P w' (pw X (p.toNat^d)):=pw1.mono hPc
   exact⟨fun k=>hc1.symm.trans k,fun k=>hc1.trans k⟩
  refine⟨fun⟨⟨h1,h2⟩,h3⟩=>⟨h1,?_⟩,fun⟨h1,h2⟩=>⟨⟨h1,by omega⟩,(e h1 (by omega)).2 (by rw[h2];exact Nat.dvd_refl _)⟩⟩
  have:=Nat.le_of_dvd (by omega) ((e h1 h2).1 h3)
  omega
 have dg:Dvs g f:=hg.da.trans h.dv
 refine⟨⟨c0,cl,(show Dvs c' c from⟨g,hc⟩).trans h.dv,fun P hP=>?_,hw2.trans (pw1.mono ⟨g,hc⟩)⟩,⟨hg.ne,hg.lead,hs.of_dvs dg,fun P hP k=>((key P hP).1 k).2⟩,dg,key⟩
 have hsc:Sqf c:=hs.of_dvs h.dv
 refine⟨fun k=>?_,fun⟨h1,h2⟩=>?_⟩
 ·have k1:=(h.irr P hP).1 (k.trans ⟨g,hc⟩)
  refine⟨k1.1,?_⟩
  rcases Nat.lt_or_ge P.len (d+1+1)with h3 | h3
  ·exact absurd k (hsc.dis hc hP ((key P hP).2 ⟨k1.1,by omega⟩))
  ·exact h3
 ·have k1:=(h.irr P hP).2 ⟨h1,by omega⟩
  rw[hc]at k1
  rcases hP.prime k1 with h3 | h3
  ·exact h3
  ·have:=((key P hP).1 h3).2
   omega
theorem BdI.exit {f c w:Pol (Zp p)} {d:Nat} (h:BdI f d c w) (h2:2≤c.len) (hl:c.len-1<2*d):Irr c:=by
 obtain⟨P,hP,x,hx⟩:=ex_irr c.len c (Nat.le_refl _) h2
 have h1:=((h.irr P hP).1 ⟨x,hx⟩).2
 have hx0:x≠0:=fun e=>h.ne (by rw[hx,e,mul_zero])
 have h3:=len_mul hP.ne hx0
 rw[← hx]at h3
 rcases Nat.lt_or_ge x.len 2 with h4 | h4
 ·exact irr_of_small hP ⟨x,hx⟩ h.ne (by have:=len_pos hx0;omega)
 ·obtain⟨S,hS,hSx⟩:=ex_irr x.len x (Nat.le_refl _) h4
  have h5:=((h.irr S hS).1 (hSx.trans ⟨P,by rw[hx,Crg.mul_comm]⟩)).2
  have h6:=hSx.len hx0
  omega
end
end Go.Proofs.YtibaocbpeaejkaaGreat
/- The list of irreducible divisors with exponents; their product. Plain: no program. -/
namespace Go.Proofs.YtibaocbpeaejkaaGreat
open Crg Pol
section
variable {K:Type} [Fld K]
structure FacL (f : Pol K) (t : Nat) (l : List (Pol K × Nat)) : Prop where
 all:∀ c∈l,Irr c.1/\c.1.lead=1/\Dvs c.1 f/\c.2=t*val c.1 f
 mem:∀ P,Irr P->P.lead=1->Dvs P f->(P,t*val P f)∈l
 nd:l.Pairwise fun a b=>a.1≠b.1
open Classical in
theorem val_irr {P M:Pol K} (hP:Irr P) (hM:Irr M) (lP:P.lead=1) (lM:M.lead=1):val P M=if P=M then 1 else 0:=by
 split
 ·rename_i e
  rw[← e]
  have:=val_of (h:=1) hP hP.not_one 1
  rwa [pw_one,Crg.mul_one]at this
 ·rename_i e
  have:=val_of (h:=M) hP (fun h=>e (hP.eq hM lP lM h)) 0
  rwa [show pw P 0*M=M from one_mul M]at this
theorem pw_ne_zero {a:Pol K} (h:a≠0) (n:Nat):pw a n≠0:=(len_pw_eq h n).2
theorem val_pw {P a : Pol K} (hP : Irr P) (ha : a ≠ 0) : ∀ n, val P (pw a n) = n * val P a
 | 0=>by rw[Nat.zero_mul];exact val_one hP
 | n+1=>by
  show val P (pw a n*a)=_
  rw[val_mul hP (pw_ne_zero ha n) ha,val_pw hP ha n,Nat.succ_mul]
noncomputable def prL : List (Pol K × Nat) → Pol K
 | []=>1
 | c :: l=>pw c.1 c.2*prL l
theorem prL_ne {l:List (Pol K × Nat)} (h:∀ c∈l,c.1≠0):prL l≠0:=by
 induction l with
 | nil=>exact Pol.one_ne
 | cons c l ih =>
  intro e
  rcases domain e with h1 | h1
  ·exact pw_ne_zero (h c (by simp)) _ h1
  ·exact ih (fun c hc=>h c (by simp[hc])) h1
theorem lead_pw {a : Pol K} (h : a ≠ 0) (hl : a.lead = 1) : ∀ n, (pw a n).lead = 1
 | 0=>lead_one
 | n+1=>by
  show(pw a n*a).lead=1
  rw[lead_mul (pw_ne_zero h n) h,lead_pw h hl n,hl,Crg.mul_one]
theorem prL_lead {l:List (Pol K × Nat)} (h:∀ c∈l,c.1≠0/\c.1.lead=1):(prL l).lead=1:=by
 induction l with
 | nil=>exact lead_one
 | cons c l ih =>
  have h1:=h c (by simp)
  have h2:=ih fun c hc=>h c (by simp[hc])
  show(pw c.1 c.2*prL l).lead=1
  rw[lead_mul (pw_ne_zero h1.1 _) (prL_ne fun c hc=>(h c (by simp[hc])).1),lead_pw h1.1 h1.2,h2,Crg.mul_one]
open Classical in
theorem prL_val {P : Pol K} (hP : Irr P) (lP : P.lead = 1) : ∀ {l : List (Pol K × Nat)}, (∀ c ∈ l, Irr c.1 ∧ c.1.lead = 1) → l.Pairwise (fun a b => a.1 ≠ b.1) → (∀ e, (P, e) ∈ l → val P (prL l) = e) ∧ ((∀ e, (P, e) ∉ l) → val P (prL l) = 0)
 | [],_,_=>⟨fun e h=>absurd h (by simp),fun _=>val_one hP⟩
 | c :: l,h,hn=>by
  rw[List.pairwise_cons]at hn
  have hc:=h c (by simp)
  obtain⟨h1,h2⟩:=prL_val hP lP (fun c hc=>h c (by simp[hc])) hn.2
  have e1:val P (prL (c :: l))=c.2*(if P=c.1 then 1 else 0)+val P (prL l):=by
   show val P (pw c.1 c.2*prL l)=_
   rw[val_mul hP (pw_ne_zero hc.1.ne _) (prL_ne fun c hc=>(h c (by simp[hc])).1.ne),val_pw hP hc.1.ne,val_irr hP hc.1 lP hc.2]
  refine⟨fun e he=>?_,fun hno=>?_⟩
  ·rw[e1]
   rcases List.mem_cons.1 he with h3 | h3
   ·have h4:val P (prL l)=0:=h2 fun e' he'=>hn.1 _ he' (by rw[← h3])
    rw[h4,← h3,if_pos rfl,Nat.mul_one,Nat.add_zero]
   ·rw[if_neg (fun h4=>hn.1 _ h3 h4.symm),Nat.mul_zero,Nat.zero_add]
    exact h1 e h3
  ·rw[e1,if_neg (fun h4=>hno c.2 (by rw[h4];simp)),Nat.mul_zero,Nat.zero_add]
   exact h2 fun e he=>hno e (by simp[he])
theorem val_assoc {P M f:Pol K} (hP:Irr P) (hM:Irr M) (hf:f≠0) (h1:Dvs P M) (h2:Dvs M P):val P f=val M f:=by
 have key:∀ {P M:Pol K} (e:Nat),Dvs P M->Dvs (pw P e) (pw M e):=fun e h=>by
  obtain⟨x,hx⟩:=h
  exact⟨pw x e,by rw[hx,mul_pw]⟩
 have a:=(val_iff hP hf).1 ((key _ h1).trans ((val_iff hM hf).2 (Nat.le_refl _)))
 have b:=(val_iff hM hf).1 ((key _ h2).trans ((val_iff hP hf).2 (Nat.le_refl _)))
 omega
theorem FacL.prod {f:Pol K} {l:List (Pol K × Nat)} (h:FacL f 1 l) (hf:f≠0) (lf:f.lead=1):f=prL l:=by
 have hall:=fun c hc=>(h.all c hc)
 have h0:prL l≠0:=prL_ne fun c hc=>(hall c hc).1.ne
 refine eq_of_val hf h0 lf (prL_lead fun c hc=>⟨(hall c hc).1.ne,(hall c hc).2.1⟩) fun P hP=>?_
 obtain⟨M,lM,mM,g1,g2⟩:=monic_of hP.ne
 have iM:=hP.assoc g1 g2 lM
 rw[val_assoc hP iM hf g2 g1,val_assoc hP iM h0 g2 g1]
 obtain⟨h1,h2⟩:=prL_val iM mM (fun c hc=>⟨(hall c hc).1,(hall c hc).2.1⟩) h.nd
 by_cases hd:Dvs M f
 ·have:=h1 _ (h.mem M iM mM hd)
  rw[this,Nat.one_mul]
 ·rw[h2 fun e he=>hd (hall _ he).2.2.1]
  have:¬ 1≤val M f:=fun k=>hd ((val_pos iM hf).2 k)
  omega
open Classical in
theorem FacL.irr_iff {f:Pol K} {l:List (Pol K × Nat)} (h:FacL f 1 l) (hf:f≠0) (lf:f.lead=1):Irr f↔∃ x,l=[(x,1)]:=by
 refine⟨fun hi=>⟨f,?_⟩,fun⟨x,hx⟩=>?_⟩
 ·have hm:=h.mem f hi lf (Dvs.refl f)
  rw[val_irr hi hi lf lf,if_pos rfl]at hm
  have hone:∀ c∈l,c=(f,1):=fun c hc=>by
   obtain⟨h1,h2,h3,h4⟩:=h.all c hc
   have e:=h1.eq hi h2 lf h3
   rw[e,val_irr hi hi lf lf,if_pos rfl]at h4
   exact Prod.ext e h4
  match l,h.nd,hone,hm with
  | [],_,_,hm=>simp at hm
  | [c],_,hone,_=>rw[hone c (by simp)]
  | c :: d :: l,nd,hone,_ =>
   have:=(List.pairwise_cons.1 nd).1 d (by simp)
   rw[hone c (by simp),hone d (by simp)]at this
   exact absurd rfl this
 ·have e:=h.prod hf lf
  have h1:=(h.all (x,1) (by rw[hx];simp)).1
  rw[hx]at e
  have e:f=pw x 1*1:=e
  rw[Crg.mul_one,pw_one]at e
  rw[e]
  exact h1
end
end Go.Proofs.YtibaocbpeaejkaaGreat
/- Small laws of polynomials that the walks ask for. Plain: no program. -/
namespace Go.Proofs.YtibaocbpeaejkaaGreat
open Crg Pol
section
variable {K:Type} [Fld K]
theorem cgr_of_div {a b q r:Pol K} (h:a=q*b+r):Cgr b a r:=⟨q,by
 rw[h]
 exact RE.eq [q,b,r] (t0*t1+t2-t2) (t1*t0) rfl⟩
theorem div_unique {a b q r q' r':Pol K} (h:a=q*b+r) (hr:r.len<b.len) (h':a=q'*b+r') (hr':r'.len<b.len):q'=q/\r'=r:=by
 have er:r'=r:=((cgr_of_div h').symm.trans (cgr_of_div h)).eq hr' hr
 subst er
 have hb0:b≠0:=ne_of_len (by omega)
 have h4:=add_right_cancel (h'.symm.trans h)
 rw[Crg.mul_comm,Crg.mul_comm q]at h4
 exact⟨cancel hb0 h4,rfl⟩
theorem euclid_step {a b q r g u v:Pol K} (h:a=q*b+r) (h1:g=u*b+v*r):g=v*a+(u-v*q)*b:=by
 rw[h1,h]
 exact RE.eq [u,b,v,r,q] (t0*t1+t2*t3) (t2*(t4*t1+t3)+(t0-t2*t4)*t1) rfl
noncomputable def Pol.qo (a b:Pol K):Pol K:=open Classical in if h:b=0 then 0 else(div_ex a h).choose
theorem Pol.qo_spec (a:Pol K) {b:Pol K} (h:b≠0):a=qo a b*b+rm a b:=by
 unfold qo rm
 rw[dif_neg h,dif_neg h]
 exact(div_ex a h).choose_spec.choose_spec.1
theorem mul_3 (a b c:Pol K):a*b*c=a*c*b:=RE.eq [a,b,c] (t0*t1*t2) (t0*t2*t1) rfl
end
end Go.Proofs.YtibaocbpeaejkaaGreat
/- Lists in normal form as polynomials over the field of p elements; the operations' contracts over polynomials. -/
namespace Go.Proofs.YtibaocbpeaejkaaGreat
open Go.RowKit
noncomputable def ofP {p:Int} [Prm p] (a:Pol (Zp p)):Fp.L:=(a.len,fun i=>(a.f i).v)
noncomputable abbrev pl {p:Int} [Prm p] (a:Pol (Zp p)):V:=Fp.cl (ofP a)
theorem prm_of {p:Int} (hp:Fp.md p):Prm p:=⟨hp.1,fun a ha=>⟨Fp.inv a p,by
 have h1:=Int.emod_nonneg a (show p≠0 by have:=hp.1;omega)
 have:=Fp.inv_spec (c:=a) hp (by omega)
 rwa [Int.mul_comm]at this⟩⟩
section
variable {p:Int} [hp:Prm p]
theorem ofP_NL (a:Pol (Zp p)) (h:a.len≤4096):Fp.NL p (ofP a):=by
 refine⟨h,fun i=>(a.f i).r,fun j hj=>?_,?_⟩
 ·show(a.f j).v=0
  rw[Pol.len_out a j hj]
  exact Int.zero_emod p
 ·show Fp.tl (fun i=>(a.f i).v) a.len=a.len
  exact Fp.tl_full fun h0=>fun e=>Pol.len_top a (k:=a.len-1) (by omega) (Zp.v_zero.1 e)
theorem ofP_eq {x:Fp.L} {a:Pol (Zp p)} (hx:Fp.NL p x) (h:∀ i,(Zp.red (x.2 i):Zp p)=a.f i):x=ofP a:=by
 have e:∀ i,x.2 i=(a.f i).v:=fun i=>by
  rw[← h i]
  show x.2 i=x.2 i%p
  rw[Int.emod_eq_of_lt (hx.r i).1 (hx.r i).2]
 have e2:x.2=fun i=>(a.f i).v:=funext e
 have e1:x.1=a.len:=by
  refine Nat.le_antisymm ?_ (Pol.len_le fun j hj=>?_)
  ·rcases Nat.lt_or_ge a.len x.1 with h1 | h1
   ·have:=hx.l (by omega)
    rw[e,Pol.len_out a _ (by omega)]at this
    exact absurd (Int.zero_emod p) this
   ·exact h1
  ·rw[← h j,hx.z j hj]
   rfl
 exact Prod.ext e1 e2
theorem red_v' (a:Pol (Zp p)) (i:Nat):(Zp.red ((ofP a).2 i):Zp p)=a.f i:=Zp.red_v _
theorem red_su (f : Nat → Int) : ∀ n, (Zp.red (Fp.su f n) : Zp p) = Crg.sm (fun i => Zp.red (f i)) n
 | 0=>rfl
 | n+1=>by
  show Zp.red (Fp.su f n+f n)=_+_
  rw[Zp.red_add,red_su f n]
theorem red_cf (F G:Nat->Int) (k:Nat):(Zp.red (Fp.cf F G k):Zp p)=Pol.cv (fun i=>Zp.red (F i)) (fun i=>Zp.red (G i)) k:=by
 unfold Fp.cf Pol.cv
 rw[red_su]
 exact Crg.sm_congr fun i _=>Zp.red_mul _ _
theorem red_cg {A B:Nat->Int} (h:Fp.Cg p A B) (i:Nat):(Zp.red (A i):Zp p)=Zp.red (B i):=Zp.red_eq.2 (h i)
theorem red_cf' (a b:Pol (Zp p)) (k:Nat):(Zp.red (Fp.cf (ofP a).2 (ofP b).2 k):Zp p)=(a*b).f k:=by
 rw[red_cf]
 show Pol.cv _ _ k=Pol.cv a.f b.f k
 rw[show(fun i=>(Zp.red ((ofP a).2 i):Zp p))=a.f from funext fun i=>red_v' a i,show(fun i=>(Zp.red ((ofP b).2 i):Zp p))=b.f from funext fun i=>red_v' b i]
variable (hm:Fp.md p)
include hm
theorem mul_of (a b:Pol (Zp p)) (ha:a.len≤2048) (hb:b.len≤2048):Fp.mulL p (ofP a) (ofP b)=ofP (a*b) :=
 ofP_eq (Fp.NL.mul hm (ofP_NL b (by omega)) (by show a.len+b.len≤4096;omega)) fun i=>by
  rw[red_cg (Fp.pr_cf (ofP_NL a (by omega))) i,red_cf']
theorem sub_of (a b:Pol (Zp p)) (ha:a.len≤4096) (hb:b.len≤4096):Fp.subL p (ofP a) (ofP b)=ofP (a-b) :=
 ofP_eq (Fp.NL.sub hm (ofP_NL a ha) (ofP_NL b hb)) fun i=>by
  rw[red_cg (Fp.sub_cg _ _) i,Zp.red_sub,red_v',red_v',Pol.f_sub]
theorem add_of (a b:Pol (Zp p)) (ha:a.len≤4096) (hb:b.len≤4096):Fp.addL p (ofP a) (ofP b)=ofP (a+b) :=
 ofP_eq (Fp.NL.add hm (ofP_NL a ha) (ofP_NL b hb)) fun i=>by
  rw[red_cg (Fp.add_cg _ _) i,Zp.red_add,red_v',red_v',Pol.f_add]
theorem sc_of (c:Int) (a:Pol (Zp p)) (ha:a.len≤4096):Fp.scL p c (ofP a)=ofP (Pol.C (Zp.red c)*a) :=
 ofP_eq (Fp.NL.sc hm (ofP_NL a ha)) fun i=>by
  rw[red_cg (Fp.sc_cg _) i,Zp.red_mul,red_v',Pol.C_mul]
theorem div_of {a b q r:Pol (Zp p)} (ha:a.len≤4096) (hb:b.len≤4096) (h:a=q*b+r) (hr:r.len<b.len):Fp.quoL p (ofP a) (ofP b)=ofP q/\Fp.rstL p (ofP a) (ofP b)=ofP r:=by
 have nb:=ofP_NL b hb
 have na:=ofP_NL a ha
 have h0:0<(ofP b).1:=by show 0<b.len;omega
 have nq:=Fp.NL.quo hm na nb h0
 obtain⟨nr,lr⟩:=Fp.NL.rst hm na nb h0
 have hd:=Fp.div_cg hm na nb h0
 generalize Fp.quoL p (ofP a) (ofP b)=x at *
 generalize Fp.rstL p (ofP a) (ofP b)=y at *
 have back:∀ {z:Fp.L},Fp.NL p z->∃ c:Pol (Zp p),z=ofP c:=fun {z} hz=>by
  refine⟨⟨fun i=>Zp.red (z.2 i),z.1,fun j hj=>by rw[hz.z j hj];rfl⟩,ofP_eq hz fun _=>rfl⟩
 obtain⟨q',rfl⟩:=back nq
 obtain⟨r',rfl⟩:=back nr
 have e:a=q'*b+r':=Pol.ext fun i=>by
  have:=red_cg (p:=p) hd i
  rw[red_v',Zp.red_add,red_cf',red_v']at this
  exact this
 have lr:r'.len<b.len:=lr
 obtain⟨e1,e2⟩:=div_unique h hr e lr
 rw[e1,e2]
 exact⟨rfl,rfl⟩
theorem times_P {a b:Pol (Zp p)} (ha:a.len≤1024) (hb:b.len≤1024):FnOK Tryz.prog false 69 [.c (.int .i64 p),pl a,pl b] (pl (a*b)):=by
 rw[show pl (a*b)=Fp.cl (Fp.mulL p (ofP a) (ofP b))by rw[mul_of hm a b (by omega) (by omega)]]
 exact Fp.times_L hm (ofP_NL a (by omega)) (ofP_NL b (by omega)) ha hb
theorem subs_P {a b:Pol (Zp p)} (ha:a.len≤4096) (hb:b.len≤4096):FnOK Tryz.prog false 132 [.c (.int .i64 p),pl a,pl b,.c (.int .i64 (p-1))] (pl (a-b)):=by
 rw[show pl (a-b)=Fp.cl (Fp.subL p (ofP a) (ofP b))by rw[sub_of hm a b ha hb]]
 exact Fp.subs_L hm (ofP_NL a ha) (ofP_NL b hb)
theorem adds_P {a b:Pol (Zp p)} (ha:a.len≤4096) (hb:b.len≤4096):FnOK Tryz.prog false 132 [.c (.int .i64 p),pl a,pl b,.c (.int .i64 1)] (pl (a+b)):=by
 rw[show pl (a+b)=Fp.cl (Fp.addL p (ofP a) (ofP b))by rw[add_of hm a b ha hb]]
 exact Fp.adds_L hm (ofP_NL a ha) (ofP_NL b hb)
theorem divide_P {a b q r:Pol (Zp p)} (ha:a.len≤4096) (hb:b.len≤4096) (h:a=q*b+r) (hr:r.len<b.len):FnOK Tryz.prog false 104 [.c (.int .i64 p),pl a,pl b] (.t2 (pl q) (pl r)):=by
 obtain⟨e1,e2⟩:=div_of hm ha hb h hr
 rw[show(V.t2 (pl q) (pl r)) = .t2 (Fp.cl (Fp.quoL p (ofP a) (ofP b))) (Fp.cl (Fp.rstL p (ofP a) (ofP b)))by rw[e1,e2]]
 exact Fp.divide_L hm (ofP_NL a ha) (ofP_NL b hb) (by show 0<b.len;omega)
theorem gc_of : ∀ (t : Nat) {a b : Pol (Zp p)}, a.len ≤ 4096 → b.len ≤ 4096 → b.len ≤ t → ∃ g : Pol (Zp p), Fp.gc p t (ofP a).1 (ofP a).2 (ofP b).1 (ofP b).2 = ofP g ∧ g.len ≤ 4096 ∧ Pol.Dvs g a ∧ Pol.Dvs g b ∧ ∃ u v, g = u * a + v * b
 | 0,a,b,ha,hb,ht=>by
  refine⟨a,rfl,ha,Pol.Dvs.refl a,?_,1,0,by rw[Crg.one_mul,Crg.zero_mul,Crg.add_zero]⟩
  rw[Pol.len_nil (a:=b) (by omega)]
  exact Pol.Dvs.zero a
 | t+1,a,b,ha,hb,ht=>by
  by_cases h0:b.len=0
  ·refine⟨a,?_,ha,Pol.Dvs.refl a,?_,1,0,by rw[Crg.one_mul,Crg.zero_mul,Crg.add_zero]⟩
   ·show(if b.len=0 then _ else _)=_
    rw[if_pos h0]
   ·rw[Pol.len_nil h0]
    exact Pol.Dvs.zero a
  ·have hb0:b≠0:=Pol.ne_of_len (by omega)
   obtain⟨q,r,e,hr⟩:=Pol.div_ex a hb0
   obtain⟨_,e2⟩:=div_of hm ha hb e hr
   obtain⟨g,h1,h2,h3,h4,u,v,h5⟩:=gc_of t (a:=b) (b:=r) hb (by omega) (by omega)
   refine⟨g,?_,h2,?_,h3,v,u-v*q,?_⟩
   ·show(if b.len=0 then _ else Fp.gc p t (ofP b).1 (ofP b).2 (Fp.rstL p (ofP a) (ofP b)).1 (Fp.rstL p (ofP a) (ofP b)).2)=_
    rw[if_neg h0,e2,h1]
   ·rw[e]
    exact(h3.mul' q).add h4
   ·exact euclid_step e h5
theorem mo_of {g:Pol (Zp p)} (hg:g≠0) (hl:g.len≤4096):∃ m:Pol (Zp p),Fp.moL p (ofP g)=ofP m/\m.lead=1/\Pol.Dvs m g/\Pol.Dvs g m/\m.len=g.len:=by
 have h0:=Pol.len_pos hg
 have hi:=Fp.lead_inv hm (ofP_NL g hl) (show 0<(ofP g).1 from h0)
 obtain⟨c,hc⟩:∃ c:Zp p,c=Zp.red (Fp.inv ((ofP g).2 ((ofP g).1-1)) p):=⟨_,rfl⟩
 have h1:c*g.lead=1:=by
  have:=(Zp.red_eq (p:=p)).2 hi
  rw[Zp.red_mul,← hc,red_v']at this
  exact this
 have c0:c≠0:=fun e=>by
  rw[e,Crg.zero_mul]at h1
  exact Fld.one_ne h1.symm
 have hC:(Pol.C c:Pol (Zp p))≠0:=Pol.ne_of_len (by rw[Pol.len_C c0];omega)
 have hl2:(Pol.C c*g).len=g.len:=by
  have:=Pol.len_mul hC hg
  rw[Pol.len_C c0]at this
  omega
 refine⟨Pol.C c*g,?_,?_,⟨Pol.C g.lead,?_⟩,(Pol.Dvs.refl g).mul' _,hl2⟩
 ·show Fp.scL p _ (ofP g)=_
  rw[sc_of hm _ g hl,← hc]
 ·show(Pol.C c*g).f ((Pol.C c*g).len-1)=1
  rw[hl2,Pol.C_mul]
  exact h1
 ·rw[mul_3,Pol.C_mul_C,h1]
  exact(Crg.one_mul g).symm
theorem gcd_P {a b:Pol (Zp p)} (ha:a.len≤4096) (hb:b.len≤4096) (hne:a≠0∨b≠0):∃ g,Gc a b g/\FnOK Tryz.prog false 103 [.c (.int .i64 p),pl a,pl b] (pl g):=by
 obtain⟨g,h1,h2,h3,h4,u,v,h5⟩:=gc_of hm b.len ha hb (Nat.le_refl _)
 have hg:g≠0:=fun e=>by
  rcases hne with h | h
  ·obtain⟨x,hx⟩:=h3;exact h (by rw[hx,e,Crg.zero_mul])
  ·obtain⟨x,hx⟩:=h4;exact h (by rw[hx,e,Crg.zero_mul])
 obtain⟨m,e1,e2,e3,e4,e5⟩:=mo_of hm hg h2
 refine⟨m,⟨e2,Pol.ne_of_len (by rw[e5];exact Pol.len_pos hg),e3.trans h3,e3.trans h4,fun x k1 k2=>?_⟩,?_⟩
 ·refine Pol.Dvs.trans ?_ e4
  rw[h5]
  exact(k1.mul' u).add (k2.mul' v)
 ·have:=Fp.gcd_ok hm (ofP_NL a ha) (ofP_NL b hb)
  have e:Fp.gc p (ofP b).1 (ofP a).1 (ofP a).2 (ofP b).1 (ofP b).2=ofP g:=h1
  rw[e]at this
  have e6:(Fp.tl (Fp.mo p (ofP g)) (ofP g).1,Fp.mo p (ofP g))=ofP m:=e1
  show FnOK _ _ _ _ (Fp.cl (ofP m))
  rw[← e6]
  exact this
theorem deriv_P {a:Pol (Zp p)} (ha:a.len≤4096):FnOK Tryz.prog false 101 [.c (.int .i64 p),pl a] (pl (Pol.dv a)):=by
 have:=Fp.derivative_ok hm.1 hm.2.1 ha (ofP_NL a ha).r
 have e:(Fp.tl (Fp.dv p (ofP a).2) (a.len-1),Fp.dv p (ofP a).2)=ofP (Pol.dv a):=by
  have hr:∀ i,0≤Fp.dv p (ofP a).2 i/\Fp.dv p (ofP a).2 i<p:=fun i=>⟨Int.emod_nonneg _ (by have:=hm.1;omega),Int.emod_lt_of_pos _ (by have:=hm.1;omega)⟩
  have hz:∀ j,a.len-1≤j->Fp.dv p (ofP a).2 j=0:=fun j hj=>by
   unfold Fp.dv
   rw[(ofP_NL a ha).z (j+1) (by show a.len≤j+1;omega),Int.mul_zero,Int.zero_emod]
  refine ofP_eq ⟨Nat.le_trans (Fp.tl_le _ _) (by omega),hr,Fp.tl_behind hz,Fp.tl_tl _ _⟩ fun i=>?_
  ·show Zp.red ((((i+1:Nat):Int)%p*(ofP a).2 (i+1))%p)=Crg.nc (i+1)*a.f (i+1)
   rw[Zp.nc_red,← red_v' a (i+1),← Zp.red_mul]
   exact Zp.red_eq.2 (by rw[Int.emod_emod_of_dvd _ (Int.dvd_refl p),Zp.em1])
 show FnOK _ _ _ _ (Fp.cl (ofP (Pol.dv a)))
 rw[← e]
 exact this
omit hm in
theorem red_pw (a : Pol (Zp p)) : ∀ (n i : Nat), (Zp.red (Fp.pw (ofP a).2 n i) : Zp p) = (Crg.pw a n).f i
 | 0,i=>by
  show Zp.red (if i=0 then 1 else 0)=if i=0 then 1 else 0
  split <;> rfl
 | n+1,i=>by
  show Zp.red (Fp.cf (ofP a).2 (Fp.pw (ofP a).2 n) i)=(Crg.pw a n*a).f i
  rw[red_cf,Crg.mul_comm]
  show Pol.cv _ _ i=Pol.cv a.f (Crg.pw a n).f i
  rw[show(fun i=>(Zp.red ((ofP a).2 i):Zp p))=a.f from funext fun i=>red_v' a i,show(fun i=>(Zp.red (Fp.pw (ofP a).2 n i):Zp p))=(Crg.pw a n).f from funext fun i=>red_pw a n i]
end
end Go.Proofs.YtibaocbpeaejkaaGreat
/- powMod with a number as exponent; the polynomial x; the p-th root; over polynomials. -/
namespace Go.Proofs.YtibaocbpeaejkaaGreat
open Go.RowKit
theorem val_bit : ∀ (l : List Nat) (i : Nat), Dg.ok l → Dg.val l / 2 ^ i % 2 = l.getD (i / 32) 0 / 2 ^ (i % 32) % 2
 | [],i,_=>by
  show 0 / 2^i%2=0 / 2^(i%32)%2
  rw[Nat.zero_div,Nat.zero_div]
 | d :: l,i,h=>by
  have h:=Dg.ok_cons.1 h
  have e:Dg.val (d :: l)=d+2^32*Dg.val l:=rfl
  rw[e]
  rcases Nat.lt_or_ge i 32 with hi | hi
  ·rw[Nat.div_eq_of_lt hi,Nat.mod_eq_of_lt hi]
   obtain⟨k,hk⟩:∃ k,32=i+(k+1):=⟨31-i,by omega⟩
   rw[hk,Nat.pow_add,Nat.mul_assoc,Nat.add_mul_div_left _ _ (Nat.pow_pos (by decide)),Nat.pow_succ,Nat.mul_comm (2^k) 2,Nat.mul_assoc,Nat.add_mul_mod_self_left]
   rfl
  ·obtain⟨k,rfl⟩:∃ k,i=32+k:=⟨i-32,by omega⟩
   rw[Nat.pow_add,← Nat.div_div_eq_div_mul,Nat.add_mul_div_left _ _ (by decide),Nat.div_eq_of_lt (show d<2^32 from h.1),Nat.zero_add,val_bit l k h.2]
   rw[show(32+k) / 32=k / 32+1 by omega,show(32+k)%32=k%32 by omega]
   rfl
theorem bs_digs (n:Nat):Fp.bs (Fp.bt fun i=>(((digs n).getD i 0:Nat):Int)) 0 (Fp.nb (fun i=>(((digs n).getD i 0:Nat):Int)) (Fp.tl (fun i=>(((digs n).getD i 0:Nat):Int)) (digs n).length))=n:=by
 have hok:=digs_ok n
 have hr:∀ i,(0:Int)≤(((digs n).getD i 0:Nat):Int)/\(((digs n).getD i 0:Nat):Int)<4294967296:=fun i=>by
  refine⟨Int.natCast_nonneg _,?_⟩
  have:(digs n).getD i 0<4294967296:=by
   rcases Nat.lt_or_ge i (digs n).length with h | h
   ·rw[List.getD_eq_getElem?_getD,List.getElem?_eq_getElem h]
    exact hok _ (List.getElem_mem h)
   ·rw[List.getD_eq_getElem?_getD,List.getElem?_eq_none h]
    decide
  omega
 have htl:Fp.tl (fun i=>(((digs n).getD i 0:Nat):Int)) (digs n).length=(digs n).length:=Fp.tl_full fun h0 e=>by
  have e:(digs n).getD ((digs n).length-1) 0=0:=by
   have e:(((digs n).getD ((digs n).length-1) 0:Nat):Int)=0:=e
   omega
  have ht:=digs_trimmed n
  rw[List.getD_eq_getElem?_getD,← List.getLast?_eq_getElem?]at e
  cases hl:(digs n).getLast? with
  | none=>rw[List.getLast?_eq_none_iff]at hl;rw[hl]at h0;exact absurd h0 (by decide)
  | some d =>
   rw[hl]at e
   exact ht d hl e
 rw[htl,← Fp.bs_norm hr,Fp.bs_congr (c:=fun j=>n / 2^j%2) fun i _=>by
  show(((digs n).getD ((0+i) / 32) 0:Nat):Int).toNat / 2^((0+i)%32)%2=n / 2^(0+i)%2
  rw[Int.toNat_natCast,← val_bit _ _ hok,digs_val],Fp.bs_bits]
 refine Nat.mod_eq_of_lt ?_
 have:=Dg.val_lt hok
 rw[digs_val,show Dg.B=2^32 from rfl,← Nat.pow_mul]at this
 exact this
section
variable {p:Int} [hp:Prm p] (hm:Fp.md p)
include hm
theorem rp_P {m a:Pol (Zp p)} (h0:m≠0) (hl:m.len≤4096) (e:Nat):Fp.Rp p (ofP m) (Fp.pw (ofP a).2 e) (ofP (Pol.rm (Crg.pw a e) m)):=by
 have _:=hm
 obtain⟨h1,h2⟩:=Pol.rm_spec (Crg.pw a e) h0
 obtain⟨c,hc⟩:=h1
 obtain⟨n,hn⟩:=(-c).fin
 refine⟨ofP_NL _ (by omega),h2,fun i=>((-c).f i).v,⟨n,fun j hj=>?_⟩,fun k=>?_⟩
 ·show((-c).f j).v=0
  rw[hn j hj]
  exact Int.zero_emod p
 ·refine(Zp.red_eq (p:=p)).1 ?_
  rw[red_v',Zp.red_add,red_pw,red_cf]
  have e1:(fun i=>(Zp.red ((-c).f i).v:Zp p))=(-c).f:=funext fun i=>Zp.red_v _
  have e2:(fun i=>(Zp.red ((ofP m).2 i):Zp p))=m.f:=funext fun i=>red_v' m i
  rw[e1,e2]
  have e3:Pol.rm (Crg.pw a e) m=Crg.pw a e + -c*m:=by
   have:Crg.pw a e=Pol.rm (Crg.pw a e) m+m*c:=by
    rw[← hc]
    exact Crg.RE.eq [Crg.pw a e,Pol.rm (Crg.pw a e) m] Crg.t0 (Crg.t1+(Crg.t0-Crg.t1)) rfl
   generalize Pol.rm (Crg.pw a e) m=r at *
   rw[this]
   exact Crg.RE.eq [r,m,c] Crg.t0 (Crg.t0+Crg.t1*Crg.t2 + -Crg.t2*Crg.t1) rfl
  have e4:=congrArg (fun b:Pol (Zp p)=>b.f k) e3
  exact e4
theorem powMod_P {a m:Pol (Zp p)} {e:Nat} (ha:a.len≤4096) (h0:m≠0) (hl:m.len≤1024) (he:(digs e).length≤1024):FnOK Tryz.prog false 131 [.c (.int .i64 p),pl a,.g (nz (e:Int)),pl m] (pl (Pol.rm (Crg.pw a e) m)):=by
 have h:=Fp.powMod_ok (p:=p) (f:=ofP a) (m:=ofP m) (r:=ofP (Pol.rm (Crg.pw a e) m)) (s:=decide ((e:Int)<0)) (q:=(digs e).length) (a:=fun i=>(((digs e).getD i 0:Nat):Int)) hm (ofP_NL a ha) (ofP_NL m (by omega)) (Pol.len_pos h0) hl he (fun i=>⟨Int.natCast_nonneg _,by
  rcases Nat.lt_or_ge i (digs e).length with h | h
  ·have:(digs e).getD i 0<4294967296:=by
    rw[List.getD_eq_getElem?_getD,List.getElem?_eq_getElem h]
    exact digs_ok e _ (List.getElem_mem h)
   omega
  ·rw[List.getD_eq_getElem?_getD,List.getElem?_eq_none h]
   decide⟩) (by rw[bs_digs];exact rp_P hm h0 (by omega) e)
 have e1:((e:Int)).natAbs=e:=Int.natAbs_natCast e
 have e2:(.g (nz (e:Int)):V)=Fp.bi (decide ((e:Int)<0)) (digs e).length fun i=>(((digs e).getD i 0:Nat):Int):=by
  show V.g [.bool _,dsC (digs ((e:Int)).natAbs)]=_
  rw[e1]
  rfl
 rw[e2]
 exact h
omit hm in
theorem ofP_X:ofP (Pol.X:Pol (Zp p))=(2,fun i=>if i=1 then 1 else 0):=by
 have h1:(1:Int)%p=1:=Int.emod_eq_of_lt (by omega) (by have:=hp.two;omega)
 refine Prod.ext ?_ (funext fun i=>?_)
 ·exact Pol.len_eq (k:=1) (fun j hj=>if_neg (by omega)) (by
   show(if 1=1 then(1:Zp p)else 0)≠0
   rw[if_pos rfl]
   exact Fld.one_ne)
 ·show(if i=1 then(1:Zp p)else 0).v=if i=1 then 1 else 0
  split
  ·exact h1
  ·exact Int.zero_emod p
end
end Go.Proofs.YtibaocbpeaejkaaGreat
/- The number of binary digits of a small number; small powers of a prime; the trial's half power. -/
namespace Go.Proofs.YtibaocbpeaejkaaGreat
open Go.RowKit
def Len64Post (X:Int) (w:World) (e:Ending) (w':World):Prop:=∃ n:Nat,e = .returned (.int .i64 n)/\IsLen X n/\w=w'
set_option maxRecDepth 100000 in
set_option maxHeartbeats 1000000 in
theorem len64_small (X : Int) (w : World) (h0 : 0 < X) (h1 : X < 256) :
  Calls Tryz.prog 120 #[.int .u64 X] w (Len64Post X w):=by
 have hd0:decide (4294967296≤X)=false:=by simp;omega
 have hd1:decide (65536≤X)=false:=by simp;omega
 have hd2:decide (256≤X)=false:=by simp;omega
 have hl:X.toNat<lenTab.size:=by rw[lenTab_size];omega
 have L:=Lib.hid (isLen_of (X:=X) (k:=0) (Y:=X) (by omega) (by simp) hl (by omega))
 have hT:=Lib.hid (lenTab_at _ hl (by omega))
 have hb1:0≤X:=by omega
 have hb2:X<256:=by omega
 go_enter Tryz.func120,Tryz.ntmps120
 go_wp2
 go_ret
 exact⟨_,ret_int (by have:=len_sum 0 (lenTab[X.toNat]'hl).toNat (by omega) (by omega) hT.out.2.1;rw[Int.zero_add]at this;exact this),L.out,rfl⟩
theorem isLen_log {X:Nat} {n:Nat} (h:IsLen (X:Int) n):n=Nat.log2 X+1:=by
 obtain⟨h1,_,h3,h4⟩:=h
 rw[Int.toNat_natCast]at h3 h4
 have h0:X≠0:=by
  have:=Nat.pow_pos (n:=n-1) (show 0<2 by decide)
  omega
 have e1:=(Nat.le_log2 h0).2 h3
 have e2:=(Nat.log2_lt h0).2 h4
 omega
theorem len64_ok {X:Nat} (h0:0<X) (h1:X<256):FnOK Tryz.prog false 120 [.c (.int .u64 X)] (.c (.int .i64 (Nat.log2 X+1:Nat))):=by
 refine⟨by kernel_rfl,fun D w vs _ _ hargs=>?_⟩
 match vs,hargs with
 | [v0],⟨e0,_⟩ =>
  obtain rfl:v0 = .int .u64 X:=e0
  refine(len64_small X w (by omega) (by omega)).mono ?_
  rintro e w' ⟨n,rfl,hn,rfl⟩
  exact⟨_,rfl,by rw[isLen_log hn];exact rfl,Below.refl _ _⟩
set_option maxHeartbeats 4000000 in
theorem len_small {X:Nat} (h0:0<X) (h1:X<256):FnOK Tryz.prog false 81 [.c (.int .u64 X)] (.c (.int .i64 (Nat.log2 X+1:Nat))):=by
 refine fn_ok (E:=E0) E0_ok Tryz.func81 rfl mixed (by kernel_rfl) (by kernel_rfl) ?_
 conv=>whnf
 refine⟨_,len64_ok h0 h1,?_⟩
 conv=>whnf
 exact⟨rfl,Sub.refl _⟩
theorem digs_one {x:Nat} (h0:0<x) (h:x<4294967296):digs x=[x]:=by
 refine(digs_unique (l:=[x]) (Dg.ok_cons.2 ⟨h,Dg.ok_nil⟩) (fun d hd=>?_) (by show x+Dg.B*0=x;omega)).symm
 simp at hd
 omega
theorem zlen_nat (n k:Nat) (h:n<4294967296^k):zlen (n:Int)≤k:=zlen_le (by rw[Int.natAbs_natCast];exact h)
theorem lb16 {x:Nat} (h2:2≤x) (hx:x<65536):2≤Nat.log2 x+1/\Nat.log2 x+1≤16:=by
 have a:=(Nat.le_log2 (n:=x) (k:=1) (by omega)).2 (by omega)
 have b:=(Nat.log2_lt (n:=x) (k:=16) (by omega)).2 (by omega)
 omega
theorem bits_small {x:Nat} (h2:2≤x) (hx:x<65536):FnOK Tryz.prog false 80 [.g (nz (x:Int))] (.c (.int .i64 (Nat.log2 x+1:Nat))):=by
 have hd:=digs_one (x:=x) (by omega) (by omega)
 have h:=Fp.bits_ok (n:=1) (a:=fun i=>(([x]:List Nat).getD i 0:Int)) (s:=decide ((x:Int)<0)) (by omega) fun i=>by
  cases i with
  | zero=>show(0:Int)≤(x:Int)/\(x:Int)<4294967296;omega
  | succ i=>show(0:Int)≤0/\(0:Int)<4294967296;omega
 have e1:(.g (nz (x:Int)):V)=Fp.bi (decide ((x:Int)<0)) 1 fun i=>(([x]:List Nat).getD i 0:Int):=by
  show V.g [.bool _,dsC (digs ((x:Int)).natAbs)]=_
  rw[Int.natAbs_natCast,hd]
  rfl
 have e2:Fp.tl (fun i=>(([x]:List Nat).getD i 0:Int)) 1=1:=Fp.tl_full fun _=>by show(x:Int)≠0;omega
 rw[e2]at h
 have e3:Fp.nb (fun i=>(([x]:List Nat).getD i 0:Int)) 1=Nat.log2 x+1:=by
  show 32*(1-1)+(Nat.log2 (x:Int).toNat+1)=_
  rw[Int.toNat_natCast]
  omega
 rw[e3]at h
 rw[e1]
 exact h
end Go.Proofs.YtibaocbpeaejkaaGreat
/- Small powers of a prime. -/
namespace Go.Proofs.YtibaocbpeaejkaaGreat
open Go.RowKit
theorem pow_lt16 {x k:Nat} (h:x<65536):x^k<4294967296^k∨k=0:=by
 rcases Nat.eq_zero_or_pos k with h0 | h0
 ·exact .inr h0
 ·exact .inl (Nat.pow_lt_pow_left (by omega) (by omega))
theorem zlen_pow {x k:Nat} (h:x<65536):zlen ((x^k:Nat):Int)≤k+1:=by
 refine zlen_nat _ _ ?_
 have hb:0<4294967296:=Nat.succ_pos _
 rcases pow_lt16 (k:=k) h with h1 | h1
 ·exact Nat.lt_of_lt_of_le h1 (Nat.pow_le_pow_right hb (by omega))
 ·subst h1
  show x^0<4294967296^1
  rw[Nat.pow_zero,Nat.pow_one]
  omega
theorem pow_cast (x a b:Nat):((x^(a+b):Nat):Int)=((x^a:Nat):Int)*((x^b:Nat):Int):=by rw[Nat.pow_add,Int.natCast_mul]
theorem bit_i64 {n k:Nat} (hn:n≤64) (hk:k<64):IntKind.i64.wrap ((BitVec.ofInt IntKind.i64.bits ((n:Int).fdiv (2^min k IntKind.i64.bits)) &&& BitVec.ofInt IntKind.i64.bits 1).toNat:Nat)=((n / 2^k%2:Nat):Int):=by
 have e0:(n:Int).fdiv (2^min k IntKind.i64.bits)=((n / 2^k:Nat):Int):=by
  rw[show min k IntKind.i64.bits=k from Nat.min_eq_left (Nat.le_of_lt hk),Int.fdiv_eq_ediv_of_nonneg _ (Int.le_of_lt (Int.pow_pos (by decide)))]
  rw[Int.natCast_ediv,Int.natCast_pow]
  rfl
 rw[e0]
 have hle:=Nat.div_le_self n (2^k)
 generalize n / 2^k=m at *
 have e:(BitVec.ofInt IntKind.i64.bits (m:Int) &&& BitVec.ofInt IntKind.i64.bits 1).toNat=m%2:=by
  rw[BitVec.toNat_and]
  have e1:(BitVec.ofInt IntKind.i64.bits (m:Int)).toNat=m:=by
   show(BitVec.ofInt 64 (m:Int)).toNat=_
   rw[BitVec.toNat_ofInt]
   omega
  have e2:(BitVec.ofInt IntKind.i64.bits 1).toNat=1:=by decide
  rw[e1,e2,Nat.and_one_is_mod]
 rw[e]
 have:=Nat.mod_lt m (show 0<2 by decide)
 exact inR_wrap (Fp.i64 (by omega) (by omega))
set_option maxHeartbeats 16000000 in
theorem pow_ok {x n:Nat} (h2:2≤x) (hx:x<65536) (h1:1≤n) (hn:n≤64):FnOK Tryz.prog true 32 [.g (nz (x:Int)),.c (.int .i64 n)] (.t2 (.g (nz ((x^n:Nat):Int))) (.c (.int .i64 0))):=by
 have hb:=(bits_small h2 hx).weak (r:=true)
 have hw:IntKind.u64.wrap (n:Int)=n:=inR_wrap ⟨by show(0:Int)≤n;omega,by show(n:Int)<18446744073709551616;omega⟩
 have hl:FnOK Tryz.prog true 81 [.c (.int .u64 (IntKind.u64.wrap (n:Int)))] (.c (.int .i64 (Nat.log2 n+1:Nat))):=by
  rw[hw]
  exact(len_small (X:=n) (by omega) (by omega)).weak
 obtain⟨b1,b2⟩:=lb16 h2 hx
 have ho:=of_ok (x:=1) (by decide) (by decide)
 have hlog:n<2^(Nat.log2 n+1):=Nat.lt_log2_self
 have hll:Nat.log2 n+1≤7:=by
  have:=(Nat.log2_lt (n:=n) (k:=7) (by omega)).2 (by omega)
  omega
 generalize Nat.log2 x+1=B at *
 generalize Nat.log2 n+1=l at *
 have q1:Int.tdiv 1048576 (B:Int)=((1048576 / B:Nat):Int):=by
  rw[Int.tdiv_eq_ediv_of_nonneg (by decide)]
  exact(Int.natCast_ediv 1048576 B).symm
 have q2:65536≤1048576 / B:=(Nat.le_div_iff_mul_le (by omega)).2 (by omega)
 have q3:1048576 / B≤1048576:=Nat.div_le_self _ _
 refine fn_ok (E:=E1) E1_ok Tryz.func32 rfl mixed (by kernel_rfl) (by kernel_rfl) ?_
 conv=>whnf
 refine⟨_,hb,?_⟩
 conv=>whnf
 refine bpos (show gw true (decide ((1:Int)<B))=true by rw[decide_eq_true (by omega)];rfl) ?_
 conv=>whnf
 refine⟨by omega,Fp.i64 (by rw[q1];omega) (by rw[q1];omega),?_⟩
 conv=>whnf
 refine bneg (show decide (Int.tdiv 1048576 (B:Int)<(n:Int))=false from decide_eq_false (by rw[q1];omega)) ?_
 conv=>whnf
 refine bneg (show decide ((B:Int)≤1)=false from decide_eq_false (by omega)) ?_
 conv=>whnf
 refine⟨_,ho,?_⟩
 conv=>whnf
 refine⟨_,hl,?_⟩
 conv=>whnf
 refine⟨Fp.i64 (by omega) (by omega),?_⟩
 conv=>whnf
 refine loop_ints (fun((k,y):Nat × Int)=>gst [(1,.c (.int .i64 n)),(2,.c (.p 0 0 2 0 0)),(4,.c (.p 1 0 2 0 0)),(5,.c (.int .i64 0)),(7,.c (.p 2 0 2 0 0)),(8,.c (.int .i64 ((k:Int)-1)))] [⟨30,2,1,boxF (nz (x:Int))⟩,⟨30,2,1,boxF [.bool false,.nil]⟩,⟨30,2,1,boxF (nz y)⟩]) (fun(k,_)=>k) (fun(k,y)=>k≤l/\y=((x^(n / 2^k):Nat):Int)) (l,1) rfl ?start ⟨Nat.le_refl _,by rw[Nat.div_eq_of_lt hlog];rfl⟩ ?round
 case start =>
  exact Weak.gen [some 0,some 1,some 2] rfl ⟨Rf.boxK rfl rfl,Rf.boxK rfl rfl,Rf.boxU rfl rfl rfl,trivial⟩ ⟨⟨_,rfl,rfl⟩,⟨_,rfl,rfl,rfl⟩,⟨_,rfl,rfl,rfl⟩,⟨_,rfl,rfl⟩,⟨_,rfl,rfl,rfl⟩,⟨_,rfl,rfl⟩,trivial⟩
 case round =>
  rintro ⟨k,y⟩ ⟨hk,hy⟩
  match k,hk,hy with
  | 0,hk,hy =>
   have hy:y=((x^n:Nat):Int):=by rw[hy,Nat.pow_zero,Nat.div_one]
   conv=>whnf
   refine⟨rfl,?_⟩
   show Sub (.t2 (.g (nz y)) (.c (.int .i64 0))) (.t2 (.g (nz ((x^n:Nat):Int))) (.c (.int .i64 0)))
   rw[hy]
   exact Sub.refl _
  | k+1,hk,hy =>
   have hz:zlen y≤65:=by
    rw[hy]
    refine Nat.le_trans (zlen_pow hx) ?_
    have:=Nat.div_le_self n (2^(k+1))
    omega
   have hx1:zlen (x:Int)≤1:=zlen_nat x 1 (by rw[Nat.pow_one];omega)
   have hyy:zlen (y*y)≤130:=Nat.le_trans (zlen_mul y y) (by omega)
   have m1:=mul_nz y y (by unfold LIM;omega)
   have m2:=mul_nz (y*y) (x:Int) (by unfold LIM;omega)
   have ek:(((k+1:Nat):Int)-1).toNat=k:=by omega
   have eb:=bit_i64 (n:=n) (k:=k) (by omega) (by omega)
   rw[← ek]at eb
   have hdiv:n / 2^k=2*(n / 2^(k+1))+n / 2^k%2:=by
    rw[Nat.pow_succ,← Nat.div_div_eq_div_mul]
    have:=Nat.div_add_mod (n / 2^k) 2
    omega
   have ny:y*y=((x^(2*(n / 2^(k+1))):Nat):Int):=by
    rw[hy,Nat.two_mul,pow_cast]
   have c1:n / 2^k%2=1->y*y*(x:Int)=((x^(n / 2^k):Nat):Int):=fun h=>by
    rw[ny]
    conv=>rhs;rw[hdiv,h,pow_cast,Nat.pow_one]
   have c0:n / 2^k%2≠1->y*y=((x^(n / 2^k):Nat):Int):=fun h=>by
    rw[ny]
    conv=>rhs;rw[hdiv,show n / 2^k%2=0 by have:=Nat.mod_lt (n / 2^k) (show 0<2 by decide);omega,Nat.add_zero]
   conv=>whnf
   refine bpos (show decide ((0:Int)≤((k+1:Nat):Int)-1)=true from decide_eq_true (by omega)) ?_
   conv=>whnf
   refine⟨_,m1,?_⟩
   conv=>whnf
   refine⟨by omega,?_⟩
   conv=>whnf
   refine bcase (fun(h:decide (IntKind.i64.wrap ((BitVec.ofInt IntKind.i64.bits ((n:Int).fdiv (2^min (((k+1:Nat):Int)-1).toNat IntKind.i64.bits)) &&& BitVec.ofInt IntKind.i64.bits 1).toNat:Nat)=1)=true)=>?_) fun(h:decide (IntKind.i64.wrap ((BitVec.ofInt IntKind.i64.bits ((n:Int).fdiv (2^min (((k+1:Nat):Int)-1).toNat IntKind.i64.bits)) &&& BitVec.ofInt IntKind.i64.bits 1).toNat:Nat)=1)=false)=>?_
   ·have h:=of_decide_eq_true h
    have c1:=c1 (by
     have h9:=congrArg Int.toNat (eb.symm.trans h)
     rw[Int.toNat_natCast,ek]at h9
     exact h9)
    conv=>whnf
    refine⟨_,m2,?_⟩
    conv=>whnf
    refine⟨Fp.i64 (by omega) (by omega),?_⟩
    conv=>whnf
    exact⟨(k,y*y*(x:Int)),by show k<k+1;omega,Weak.gen [some 0,some 1,some 2] rfl ⟨Rf.boxK rfl rfl,Rf.boxK rfl rfl,Rf.boxU rfl rfl rfl,trivial⟩ ⟨⟨_,rfl,rfl⟩,⟨_,rfl,rfl,rfl⟩,⟨_,rfl,rfl,rfl⟩,⟨_,rfl,rfl⟩,⟨_,rfl,rfl,rfl⟩,⟨_,rfl,by omega⟩,trivial⟩,by show k≤l;omega,c1⟩
   ·have h:=of_decide_eq_false h
    have c0:=c0 (by intro h9;exact h (eb.trans (by rw[ek,h9];rfl)))
    conv=>whnf
    refine⟨Fp.i64 (by omega) (by omega),?_⟩
    conv=>whnf
    exact⟨(k,y*y),by show k<k+1;omega,Weak.gen [some 0,some 1,some 2] rfl ⟨Rf.boxK rfl rfl,Rf.boxK rfl rfl,Rf.boxU rfl rfl rfl,trivial⟩ ⟨⟨_,rfl,rfl⟩,⟨_,rfl,rfl,rfl⟩,⟨_,rfl,rfl,rfl⟩,⟨_,rfl,rfl⟩,⟨_,rfl,rfl,rfl⟩,⟨_,rfl,by omega⟩,trivial⟩,by show k≤l;omega,c0⟩
end Go.Proofs.YtibaocbpeaejkaaGreat
/- The document's powers. -/
namespace Go.Proofs.YtibaocbpeaejkaaGreat
open Go.RowKit
namespace Cn
open Rf
theorem zmul_c {a b:Int} (h:zlen a+zlen b≤1048576):FnOK Tryz.prog false 15 [.g (nz a),.g (nz b)] (.g (nz (a*b))):=by
 have:=rmulz_ok (a:=ofZ a) (b:=ofZ b) (wr_nz (by omega)) (wr_nz (by omega)) (by rw[ofZ_val,ofZ_val];exact h)
 rwa [ofZ_val,ofZ_val]at this
theorem zadd_c {x y:Int} (h:zlen x≤1048575) (h':zlen y≤1048575):FnOK Tryz.prog false 14 [.g (nz x),.g (nz y)] (.g (nz (x+y))):=by
 have:=zadd_ok (a:=ofZ x) (b:=ofZ y) (wr_nz (by omega)) (wr_nz (by omega)) (by rw[ofZ_val];exact h) (by rw[ofZ_val];exact h')
 rwa [ofZ_val,ofZ_val]at this
theorem zdiv_c {x y:Int} (h:zlen x≤524286) (h':zlen y≤524286) (h0:y≠0):FnOK Tryz.prog false 49 [.g (nz x),.g (nz y)] (.g (nz (x / y))):=by
 have:=divd_ok (a:=ofZ x) (b:=ofZ y) (wr_nz (by omega)) (wr_nz (by omega)) (by rw[ofZ_val];exact h) (by rw[ofZ_val];exact h') (by rw[ofZ_val];exact h0)
 rwa [ofZ_val,ofZ_val]at this
theorem zlen_pw {x e:Nat} (h:x<65536) (he:e≤128):zlen ((x^e:Nat):Int)≤129:=Nat.le_trans (zlen_pow h) (by omega)
theorem tmod2 (m:Nat):Int.tmod (m:Int) 2=((m%2:Nat):Int):=by
 rw[Int.tmod_eq_emod_of_nonneg (by omega)]
 exact(Int.natCast_emod m 2).symm
theorem tdiv2 (m:Nat):Int.tdiv (m:Int) 2=((m / 2:Nat):Int):=by
 rw[Int.tdiv_eq_ediv_of_nonneg (by omega)]
 exact(Int.natCast_ediv m 2).symm
set_option maxHeartbeats 16000000 in
theorem raised_ok {x n:Nat} (hx:x<65536) (hn:n≤64):FnOK Tryz.prog false 18 [.g (nz (x:Int)),.c (.int .i64 n)] (.g (nz ((x^n:Nat):Int))):=by
 have ho:=rof_ok (x:=1) (by decide) (by decide)
 rw[show nz (x:Int)=nz ((x^1:Nat):Int)by rw[Nat.pow_one]]
 refine fn_ok (E:=E0) E0_ok Tryz.func18 rfl mixed (by kernel_rfl) (by kernel_rfl) ?_
 conv=>whnf
 refine⟨_,ho,?_⟩
 conv=>whnf
 refine loop_ints (fun((m,e,f):Nat × Nat × Nat)=>gst [(1,.c (.int .i64 m)),(2,.c (.p 0 0 2 0 0)),(4,.c (.p 1 0 2 0 0)),(5,.c (.p 2 0 2 0 0))] [⟨30,2,1,boxF (nz ((x^e:Nat):Int))⟩,⟨30,2,1,boxF [.bool false,.nil]⟩,⟨30,2,1,boxF (nz ((x^f:Nat):Int))⟩]) (fun(m,_,_)=>m) (fun(m,e,f)=>e*m+f=n/\e≤64/\m≤64) (n,1,0) rfl ?start ⟨by omega,by decide,hn⟩ ?round
 case start =>
  exact Weak.gen [some 0,some 1,some 2] rfl ⟨Rf.boxK rfl rfl,Rf.boxK rfl rfl,Rf.boxU rfl rfl rfl,trivial⟩ ⟨⟨_,rfl,rfl⟩,⟨_,rfl,rfl,rfl⟩,⟨_,rfl,rfl,rfl⟩,⟨_,rfl,rfl,rfl⟩,trivial⟩
 case round =>
  rintro ⟨m,e,f⟩ ⟨h1,h2,h3⟩
  by_cases h0:0<m
  ·have hf:f≤64:=by omega
   have p1:=zmul_c (a:=((x^f:Nat):Int)) (b:=((x^e:Nat):Int)) (by have:=zlen_pw (e:=f) hx (by omega);have:=zlen_pw (e:=e) hx (by omega);omega)
   have p2:=zmul_c (a:=((x^e:Nat):Int)) (b:=((x^e:Nat):Int)) (by have:=zlen_pw (e:=e) hx (by omega);omega)
   rw[← pow_cast]at p1 p2
   have hdm:2*(m / 2)+m%2=m:=Nat.div_add_mod m 2
   have hem:e*m=(e+e)*(m / 2)+e*(m%2):=by
    rw[← Nat.two_mul,Nat.mul_comm 2 e,Nat.mul_assoc,← Nat.mul_add,hdm]
   have qr : -9223372036854775808≤Int.tdiv (m:Int) 2/\Int.tdiv (m:Int) 2<9223372036854775808:=by rw[tdiv2];omega
   have gr:0<m / 2->e+e≤64:=fun h=>by
    have:(e+e)*1≤(e+e)*(m / 2):=Nat.mul_le_mul_left _ h
    omega
   conv=>whnf
   refine bpos (show decide ((0:Int)<(m:Int))=true from decide_eq_true (by omega)) ?_
   conv=>whnf
   refine⟨by decide,?_⟩
   conv=>whnf
   rcases Nat.mod_two_eq_zero_or_one m with c | c
   ·have c1:e*(m%2)=0:=by rw[c,Nat.mul_zero]
    refine bneg (show decide (Int.tmod (m:Int) 2=1)=false from decide_eq_false (by rw[tmod2,c];decide)) ?_
    conv=>whnf
    refine⟨by decide,qr,?_⟩
    conv=>whnf
    by_cases d:0<m / 2
    ·have:=gr d
     refine bpos (show decide ((0:Int)<Int.tdiv (m:Int) 2)=true from decide_eq_true (by rw[tdiv2];omega)) ?_
     conv=>whnf
     refine⟨_,p2,?_⟩
     conv=>whnf
     exact⟨(m / 2,e+e,f),by show m / 2<m;omega,Weak.gen [some 0,some 1,some 2] rfl ⟨Rf.boxU rfl rfl rfl,Rf.boxK rfl rfl,Rf.boxK rfl rfl,trivial⟩ ⟨⟨_,rfl,tdiv2 m⟩,⟨_,rfl,rfl,rfl⟩,⟨_,rfl,rfl,rfl⟩,⟨_,rfl,rfl,rfl⟩,trivial⟩,by show(e+e)*(m / 2)+f=n;omega,by omega,by omega⟩
    ·refine bneg (show decide ((0:Int)<Int.tdiv (m:Int) 2)=false from decide_eq_false (by rw[tdiv2];omega)) ?_
     conv=>whnf
     exact absurd h0 (by omega)
   ·have c1:e*(m%2)=e:=by rw[c,Nat.mul_one]
    refine bpos (show decide (Int.tmod (m:Int) 2=1)=true from decide_eq_true (by rw[tmod2,c];decide)) ?_
    conv=>whnf
    refine⟨_,p1,?_⟩
    conv=>whnf
    refine⟨by decide,qr,?_⟩
    conv=>whnf
    by_cases d:0<m / 2
    ·have:=gr d
     refine bpos (show decide ((0:Int)<Int.tdiv (m:Int) 2)=true from decide_eq_true (by rw[tdiv2];omega)) ?_
     conv=>whnf
     refine⟨_,p2,?_⟩
     conv=>whnf
     exact⟨(m / 2,e+e,f+e),by show m / 2<m;omega,Weak.gen [some 0,some 1,some 2] rfl ⟨Rf.boxU rfl rfl rfl,Rf.boxK rfl rfl,Rf.boxU rfl rfl rfl,trivial⟩ ⟨⟨_,rfl,tdiv2 m⟩,⟨_,rfl,rfl,rfl⟩,⟨_,rfl,rfl,rfl⟩,⟨_,rfl,rfl,rfl⟩,trivial⟩,by show(e+e)*(m / 2)+(f+e)=n;omega,by omega,by omega⟩
    ·have d0:m / 2=0:=by omega
     rw[d0,Nat.mul_zero]at hem
     refine bneg (show decide ((0:Int)<Int.tdiv (m:Int) 2)=false from decide_eq_false (by rw[tdiv2];omega)) ?_
     conv=>whnf
     exact⟨(m / 2,e,f+e),by show m / 2<m;omega,Weak.gen [some 0,some 1,some 2] rfl ⟨Rf.boxK rfl rfl,Rf.boxK rfl rfl,Rf.boxU rfl rfl rfl,trivial⟩ ⟨⟨_,rfl,tdiv2 m⟩,⟨_,rfl,rfl,rfl⟩,⟨_,rfl,rfl,rfl⟩,⟨_,rfl,rfl,rfl⟩,trivial⟩,by show e*(m / 2)+(f+e)=n;rw[d0,Nat.mul_zero];omega,by omega,by omega⟩
  ·conv=>whnf
   refine bneg (show decide ((0:Int)<(m:Int))=false from decide_eq_false (by omega)) ?_
   conv=>whnf
   refine⟨rfl,?_⟩
   have hm:m=0:=by omega
   rw[hm,Nat.mul_zero,Nat.zero_add]at h1
   show Sub (.g (nz ((x^f:Nat):Int))) (.g (nz ((x^n:Nat):Int)))
   rw[h1]
   exact Sub.refl _
end Cn
end Go.Proofs.YtibaocbpeaejkaaGreat
