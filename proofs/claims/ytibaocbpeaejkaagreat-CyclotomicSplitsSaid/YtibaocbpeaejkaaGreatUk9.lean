/- How often an irreducible polynomial divides; derivatives; the p-th root. Plain: no program. -/
import Derived.Test.YtibaocbpeaejkaaGreatUk8
import Derived.Test.YtibaocbpeaejkaaGreatUk7
import Derived.Test.YtibaocbpeaejkaaGreatUk4
import Derived.Test.YtibaocbpeaejkaaGreatRows
import Derived.WalkKit
import Derived.WalkSpells
import Derived.WalkLawsBesides
import Derived.Lib.Hide
import Derived.Handy
import Derived.Deep.QuietTactic
import Derived.BigQuiet
namespace Go.Proofs.YtibaocbpeaejkaaGreat
open Crg Pol
section
variable {K:Type} [Fld K]
open Classical in
noncomputable def vlt (P f : Pol K) : Nat → Nat
 | 0=>0
 | n+1=>if Dvs (pw P (n+1)) f then n+1 else vlt P f n
noncomputable def val (P f:Pol K):Nat:=vlt P f f.len
theorem pw_dvs (P:Pol K) {a b:Nat} (h:a≤b):Dvs (pw P a) (pw P b):=⟨pw P (b-a),by rw[← pw_add,show a+(b-a)=b by omega]⟩
theorem val_iff {P f:Pol K} (hP:Irr P) (hf:f≠0) {e:Nat}:Dvs (pw P e) f↔e≤val P f:=by
 have key:∀ n,(e≤n->(Dvs (pw P e) f↔e≤vlt P f n)):=by
  intro n
  induction n with
  | zero =>
   intro he
   obtain rfl:e=0:=by omega
   exact⟨fun _=>Nat.le_refl _,fun _=>Dvs.one f⟩
  | succ n ih =>
   intro he
   unfold vlt
   split
   ·rename_i h
    exact⟨fun _=>he,fun _=>(pw_dvs P he).trans h⟩
   ·rename_i h
    by_cases e1:e=n+1
    ·subst e1
     have:vlt P f n≤n:=by
      clear ih he h
      induction n with
      | zero=>exact Nat.le_refl _
      | succ n ih =>
       unfold vlt
       split
       ·exact Nat.le_refl _
       ·omega
     exact⟨fun hd=>absurd hd h,fun hle=>by omega⟩
    ·exact ih (by omega)
 rcases Nat.lt_or_ge f.len e with h | h
 ·have h0:¬ Dvs (pw P e) f:=fun hd=>by
   have h1:=hd.len hf
   rw[(len_pw_eq hP.ne e).1]at h1
   have:=hP.two
   have:=Nat.mul_le_mul_left e (show 1≤P.len-1 by omega)
   omega
  have h1:vlt P f f.len≤f.len:=by
   have:∀ n,vlt P f n≤n:=by
    intro n
    induction n with
    | zero=>exact Nat.le_refl _
    | succ n ih =>
     unfold vlt
     split
     ·exact Nat.le_refl _
     ·omega
   exact this _
  exact⟨fun hd=>absurd hd h0,fun hle=>by unfold val at hle;omega⟩
 ·exact key _ h
theorem val_eq {P f:Pol K} (hP:Irr P) (hf:f≠0) {e:Nat} (h1:Dvs (pw P e) f) (h2:¬ Dvs (pw P (e+1)) f):val P f=e:=by
 have a:=(val_iff hP hf).1 h1
 have b:¬ e+1≤val P f:=fun h=>h2 ((val_iff hP hf).2 h)
 omega
theorem val_pos {P f:Pol K} (hP:Irr P) (hf:f≠0):Dvs P f↔1≤val P f:=by
 rw[← val_iff hP hf,pw_one]
theorem val_split {P f:Pol K} (hP:Irr P) (hf:f≠0):∃ h,f=pw P (val P f)*h/\¬ Dvs P h:=by
 obtain⟨h,e⟩:=(val_iff hP hf).2 (Nat.le_refl (val P f))
 refine⟨h,e,fun⟨x,hx⟩=>?_⟩
 have:Dvs (pw P (val P f+1)) f:=⟨x,by
  show f=pw P (val P f)*P*x
  rw[Crg.mul_assoc,← hx]
  exact e⟩
 have:=(val_iff hP hf).1 this
 omega
theorem val_of {P h:Pol K} (hP:Irr P) (hh:¬ Dvs P h) (e:Nat):val P (pw P e*h)=e:=by
 have hh0:h≠0:=fun e'=>hh (by rw[e'];exact Dvs.zero P)
 have h0:pw P e*h≠0:=fun e'=>(domain e').elim (len_pw_eq hP.ne e).2 hh0
 refine val_eq hP h0 ⟨h,rfl⟩ fun⟨x,hx⟩=>hh ⟨x,?_⟩
 refine cancel (len_pw_eq hP.ne e).2 ?_
 rw[hx]
 exact Crg.mul_assoc _ _ _
theorem val_mul {P a b:Pol K} (hP:Irr P) (ha:a≠0) (hb:b≠0):val P (a*b)=val P a+val P b:=by
 obtain⟨x,h1,h2⟩:=val_split hP ha
 obtain⟨y,h3,h4⟩:=val_split hP hb
 have e:a*b=pw P (val P a+val P b)*(x*y):=by
  rw[pw_add]
  conv=>lhs;rw[h1,h3]
  exact RE.eq [pw P (val P a),x,pw P (val P b),y] (t0*t1*(t2*t3)) (t0*t2*(t1*t3)) rfl
 rw[e]
 exact val_of hP (fun h=>(hP.prime h).elim h2 h4) _
theorem val_one {P:Pol K} (hP:Irr P):val P 1=0:=by
 have:=val_of (h:=1) hP hP.not_one 0
 rwa [show pw P 0*1=(1:Pol K)from Crg.mul_one 1]at this
theorem val_le {P a b:Pol K} (hP:Irr P) (hb:b≠0) (h:Dvs a b):val P a≤val P b:=by
 have ha:a≠0:=fun e=>by
  obtain⟨x,hx⟩:=h
  exact hb (by rw[hx,e,zero_mul])
 exact(val_iff hP hb).1 (((val_iff hP ha).2 (Nat.le_refl _)).trans h)
theorem dvs_of_val : ∀ (n : Nat) {a b : Pol K}, a.len ≤ n → a ≠ 0 → b ≠ 0 → (∀ P, Irr P → val P a ≤ val P b) → Dvs a b
 | 0,a,b,hn,ha,_,_=>absurd (len_nil (a:=a) (by omega)) ha
 | n+1,a,b,hn,ha,hb,h=>by
  rcases Nat.lt_or_ge a.len 2 with h1 | h1
  ·have:=len_pos ha
   obtain⟨w,hw,_⟩:=unit (a:=a) (by omega)
   exact⟨w*b,by rw[← Crg.mul_assoc,hw,one_mul]⟩
  obtain⟨P,hP,c,rfl⟩:=ex_irr a.len a (Nat.le_refl _) h1
  have hc:c≠0:=fun e=>ha (by rw[e,mul_zero])
  have hl:=len_mul hP.ne hc
  have ht:=hP.two
  have hPP:val P P=1:=by
   have:=val_of (h:=1) hP hP.not_one 1
   rwa [pw_one,Crg.mul_one]at this
  have h2:=h P hP
  rw[val_mul hP hP.ne hc,hPP]at h2
  obtain⟨b',rfl⟩:=(val_pos hP hb).2 (by omega)
  have hb':b'≠0:=fun e=>hb (by rw[e,mul_zero])
  have ih:=dvs_of_val n (a:=c) (b:=b') (by omega) hc hb' fun S hS=>by
   have:=h S hS
   rw[val_mul hS hP.ne hc,val_mul hS hP.ne hb']at this
   omega
  obtain⟨x,hx⟩:=ih
  exact⟨x,by rw[hx,Crg.mul_assoc]⟩
theorem eq_of_val {a b:Pol K} (ha:a≠0) (hb:b≠0) (la:a.lead=1) (lb:b.lead=1) (h:∀ P,Irr P->val P a=val P b):a=b:=by
 obtain⟨x,hx⟩:=dvs_of_val _ (Nat.le_refl _) ha hb fun P hP=>Nat.le_of_eq (h P hP)
 have h2:=(dvs_of_val _ (Nat.le_refl _) hb ha fun P hP=>Nat.le_of_eq (h P hP).symm).len ha
 have hx0:x≠0:=fun e=>hb (by rw[hx,e,mul_zero])
 have h3:=len_mul ha hx0
 rw[← hx]at h3
 have h4:=len_pos hx0
 have e:=eq_C (a:=x) (by omega)
 have h5:=lead_mul ha hx0
 rw[← hx,lb,la,one_mul]at h5
 have h6:x.lead=x.f 0:=by unfold lead;rw[show x.len=1 by omega]
 rw[hx,e,← h6,← h5]
 exact(Crg.mul_one a).symm
theorem sqf_val {a:Pol K} (ha:a≠0):Sqf a↔∀ P,Irr P->val P a≤1:=by
 refine⟨fun h P hP=>?_,fun h P hP hd=>?_⟩
 ·refine Classical.byContradiction fun hn=>h P hP ?_
  have:=(val_iff (e:=2) hP ha).2 (by omega)
  rwa [show pw P 2=P*P by show 1*P*P=P*P;rw[one_mul]]at this
 ·have h1:=h P hP
  rw[show P*P=pw P 2 by show P*P=1*P*P;rw[one_mul]]at hd
  have:=(val_iff hP ha).1 hd
  omega
end
section
variable {p:Int} [hp:Prm p]
noncomputable def rtp (a:Pol (Zp p)):Pol (Zp p):=⟨fun i=>a.f (p.toNat*i),a.len,fun j hj=>len_out a _ (by
 have h2:=two_le (p:=p)
 have:=Nat.mul_le_mul_right j (show 1≤p.toNat by omega)
 omega)⟩
theorem pw_p_f (b:Pol (Zp p)):(∀ i,(pw b p.toNat).f (p.toNat*i)=b.f i)/\∀ i,i%p.toNat≠0->(pw b p.toNat).f i=0:=by
 have h2:=two_le (p:=p)
 refine ind (Q:=fun b=>(∀ i,(pw b p.toNat).f (p.toNat*i)=b.f i)/\∀ i,i%p.toNat≠0->(pw b p.toNat).f i=0) ?_ (fun a b ha hb=>?_) (fun c k=>?_) b
 ·have e:pw (0:Pol (Zp p)) p.toNat=0:=by
   rw[show p.toNat=p.toNat-1+1 by omega]
   exact mul_zero _
  rw[e]
  exact⟨fun _=>rfl,fun _ _=>rfl⟩
 ·rw[frob1 Pol.nc_p]
  exact⟨fun i=>by rw[f_add,ha.1,hb.1,f_add],fun i hi=>by rw[f_add,ha.2 i hi,hb.2 i hi,Crg.add_zero]⟩
 ·rw[mn_X,mul_pw,C_pw,Zp.fermat,← pw_mul,← mn_X,← mn_X]
  refine⟨fun i=>?_,fun i hi=>?_⟩
  ·show(if p.toNat*i=k*p.toNat then c else 0)=if i=k then c else 0
   by_cases h:i=k
   ·rw[if_pos h,if_pos (by rw[h,Nat.mul_comm])]
   ·rw[if_neg h,if_neg fun e=>h (Nat.eq_of_mul_eq_mul_left (show 0<p.toNat by omega) (by rw[e,Nat.mul_comm]))]
  ·show(if i=k*p.toNat then c else 0)=0
   rw[if_neg fun e=>hi (by rw[e,Nat.mul_mod_left])]
theorem nc_ne {i:Nat} (h:i%p.toNat≠0):(nc i:Zp p)≠0:=fun e=>by
 rw[Zp.nc_red]at e
 have e:=Zp.red_eq_zero.1 e
 have h2:(p.toNat:Int)=p:=by have:=hp.two;omega
 rw[← h2]at e
 omega
theorem root_p {a:Pol (Zp p)} (h:dv a=0):pw (rtp a) p.toNat=a:=Pol.ext fun i=>by
 have h2:=two_le (p:=p)
 obtain⟨h3,h4⟩:=pw_p_f (rtp a)
 by_cases hi:i%p.toNat=0
 ·have e:i=p.toNat*(i / p.toNat):=by have:=Nat.div_add_mod i p.toNat;omega
  rw[e,h3]
  rfl
 ·rw[h4 i hi]
  cases i with
  | zero=>exact absurd (Nat.zero_mod _) hi
  | succ i =>
   have e:=congrArg (fun b:Pol (Zp p)=>b.f i) h
   have e:nc (i+1)*a.f (i+1)=0:=e
   exact((Fld.domain e).resolve_left (nc_ne hi)).symm
theorem dv_pw (a : Pol (Zp p)) : ∀ n, dv (pw a (n + 1)) = nc (n + 1) * (pw a n * dv a)
 | 0=>by
  show dv (1*a)=(0+1)*(1*dv a)
  rw[one_mul,zero_add,one_mul,one_mul]
 | n+1=>by
  show dv (pw a (n+1)*a)=(nc (n+1)+1)*(pw a n*a*dv a)
  rw[dv_mul,dv_pw a n]
  show _+pw a n*a*dv a=_
  exact RE.eq [nc (n+1),pw a n,dv a,a] (t0*(t1*t2)*t3+t1*t3*t2) ((t0+1)*(t1*t3*t2)) rfl
theorem dv_len (a:Pol (Zp p)):(dv a).len≤a.len-1:=len_le fun j hj=>by
 show nc (j+1)*a.f (j+1)=0
 rw[len_out a _ (by omega),mul_zero]
theorem irr_dv {P:Pol (Zp p)} (h:Irr P):¬ Dvs P (dv P):=fun hd=>by
 have h2:=two_le (p:=p)
 by_cases h0:dv P=0
 ·have e:=root_p h0
  have hr:rtp P≠0:=fun e'=>h.ne (by
   rw[← e,e',show p.toNat=p.toNat-1+1 by omega]
   exact mul_zero _)
  have hl:=(len_pw_eq hr p.toNat).1
  rw[e]at hl
  have ht:=h.two
  obtain⟨m,hm⟩:∃ m,p.toNat=m+1+1:=⟨p.toNat-2,by omega⟩
  rw[hm]at e
  have e:pw (rtp P) (m+1)*rtp P=P:=e
  have h1:=h.irr _ _ e.symm
  have h3:=(len_pw_eq hr (m+1)).1
  have h5:(rtp P).len≠1:=fun h=>by
   rw[h]at hl
   omega
  rcases h1 with h1 | h1
  ·have h6:=len_pos hr
   have:1≤(m+1)*((rtp P).len-1):=Nat.mul_pos (by omega) (by omega)
   omega
  ·exact h5 h1
 ·have h1:=hd.len h0
  have h3:=dv_len P
  have:=h.two
  omega
theorem Pol.nc_dvs {P:Pol (Zp p)} (h:Irr P) {n:Nat} (hn:n%p.toNat≠0):¬ Dvs P (nc n):=fun hd=>by
 rw[nc_C]at hd
 have h1:=hd.len (ne_of_len (by rw[len_C (nc_ne hn)];omega))
 rw[len_C (nc_ne hn)]at h1
 have:=h.two
 omega
theorem val_dv {P a:Pol (Zp p)} (hP:Irr P) (ha:a≠0) (hd:dv a≠0):(val P a%p.toNat=0->val P a≤val P (dv a))/\(val P a%p.toNat≠0->val P (dv a)+1=val P a):=by
 obtain⟨h,e,hh⟩:=val_split hP ha
 refine⟨fun h0=>?_,fun h0=>?_⟩
 ·refine(val_iff hP hd).1 ?_
  rw[e,dv_mul,val_of hP hh]
  cases hv:val P a with
  | zero=>exact Dvs.one _
  | succ n =>
   rw[hv]at h0
   rw[dv_pw,nc_C,show(nc (n+1):Zp p)=0 by
    rw[Zp.nc_red]
    refine Zp.red_eq_zero.2 ?_
    have h2:(p.toNat:Int)=p:=by have:=hp.two;omega
    rw[← h2]
    omega,C_zero,zero_mul,zero_mul,zero_add]
   exact⟨dv h,rfl⟩
 ·obtain⟨n,hv⟩:∃ n,val P a=n+1:=⟨val P a-1,by
   have:val P a≠0:=fun e=>h0 (by rw[e];exact Nat.zero_mod _)
   omega⟩
  rw[hv]at e h0 ⊢
  congr 1
  have e2:dv a=pw P n*(nc (n+1)*dv P*h+P*dv h):=by
   rw[e,dv_mul,dv_pw]
   show nc (n+1)*(pw P n*dv P)*h+pw P n*P*dv h=_
   exact RE.eq [nc (n+1),pw P n,dv P,h,P,dv h] (t0*(t1*t2)*t3+t1*t4*t5) (t1*(t0*t2*t3+t4*t5)) rfl
  rw[e2]
  refine val_of hP (fun hdv=>?_) n
  have h1:Dvs P (nc (n+1)*dv P*h):=by
   have:=hdv.sub (Dvs.mul (Dvs.refl P) (dv h))
   rwa [show nc (n+1)*dv P*h+P*dv h-P*dv h=nc (n+1)*dv P*h from RE.eq [nc (n+1),dv P,h,P*dv h] (t0*t1*t2+t3-t3) (t0*t1*t2) rfl]at this
  rcases hP.prime h1 with h3 | h3
  ·rcases hP.prime h3 with h4 | h4
   ·exact nc_dvs hP h0 h4
   ·exact irr_dv hP h4
  ·exact hh h3
end
end Go.Proofs.YtibaocbpeaejkaaGreat
/- The steps of a factorization modulo p: by multiplicity, by degree, and apart. Plain: no program. -/
namespace Go.Proofs.YtibaocbpeaejkaaGreat
open Crg Pol
section
variable {K:Type} [Fld K]
structure Gc (a b g : Pol K) : Prop where
 lead:g.lead=1
 ne:g≠0
 da:Dvs g a
 db:Dvs g b
 gr:∀ x,Dvs x a->Dvs x b->Dvs x g
theorem Gc.val {a b g P:Pol K} (h:Gc a b g) (hP:Irr P) (ha:a≠0) (hb:b≠0):val P g=min (val P a) (val P b):=by
 have h1:=val_le hP ha h.da
 have h2:=val_le hP hb h.db
 have h3:=(val_iff (e:=min (_root_.Go.Proofs.YtibaocbpeaejkaaGreat.val P a) (_root_.Go.Proofs.YtibaocbpeaejkaaGreat.val P b)) hP h.ne).1 (h.gr _ ((val_iff hP ha).2 (Nat.min_le_left _ _)) ((val_iff hP hb).2 (Nat.min_le_right _ _)))
 omega
theorem Gc.irr {a b g P:Pol K} (h:Gc a b g):Dvs P g↔Dvs P a/\Dvs P b:=⟨fun k=>⟨k.trans h.da,k.trans h.db⟩,fun k=>h.gr _ k.1 k.2⟩
theorem lead_quo {a b c:Pol K} (h:a=b*c) (ha:a≠0) (la:a.lead=1) (lc:c.lead=1):b≠0/\c≠0/\b.lead=1:=by
 have hb:b≠0:=fun e=>ha (by rw[h,e,zero_mul])
 have hc:c≠0:=fun e=>ha (by rw[h,e,mul_zero])
 refine⟨hb,hc,?_⟩
 have:=lead_mul hb hc
 rw[← h,la,lc,Crg.mul_one]at this
 exact this.symm
theorem lead_one:(1:Pol K).lead=1:=by
 unfold lead
 rw[len_one]
 rfl
theorem one_of_len {a:Pol K} (h0:a≠0) (h:a.len≤1) (hl:a.lead=1):a=1:=by
 have:=len_pos h0
 have e:=eq_C h
 unfold lead at hl
 rw[show a.len-1=0 by omega]at hl
 rw[e,hl]
 rfl
structure IrL (f : Pol K) (l : List (Pol K)) : Prop where
 all:∀ x∈l,Irr x/\x.lead=1/\Dvs x f
 mem:∀ P,Irr P->P.lead=1->Dvs P f->P∈l
 nd:l.Pairwise (·≠·)
theorem IrL.nil {f:Pol K} (h0:f≠0) (h:f.len≤1):IrL f [] :=
 ⟨fun x hx=>absurd hx (by simp),fun P hP _ hd=>by have:=hd.len h0;have:=hP.two;omega,List.Pairwise.nil⟩
theorem IrL.one {f:Pol K} (h:Irr f) (hl:f.lead=1):IrL f [f] :=
 ⟨fun x hx=>by rw[List.mem_singleton.1 hx];exact⟨h,hl,Dvs.refl f⟩,fun P hP lP hd=>by rw[hP.eq h lP hl hd];exact List.mem_singleton.2 rfl,List.pairwise_singleton _ _⟩
theorem IrL.app {f g h:Pol K} {l m:List (Pol K)} (hf:f=h*g) (hdis:∀ P,Irr P->Dvs P g->¬ Dvs P h) (a:IrL g l) (b:IrL h m):IrL f (l++m):=by
 have dg:Dvs g f:=⟨h,by rw[hf,Crg.mul_comm]⟩
 have dh:Dvs h f:=⟨g,hf⟩
 refine⟨fun x hx=>?_,fun P hP lP hd=>?_,?_⟩
 ·rcases List.mem_append.1 hx with h1 | h1
  ·obtain⟨h2,h3,h4⟩:=a.all x h1
   exact⟨h2,h3,h4.trans dg⟩
  ·obtain⟨h2,h3,h4⟩:=b.all x h1
   exact⟨h2,h3,h4.trans dh⟩
 ·rw[hf]at hd
  rcases hP.prime hd with h1 | h1
  ·exact List.mem_append.2 (.inr (b.mem P hP lP h1))
  ·exact List.mem_append.2 (.inl (a.mem P hP lP h1))
 ·refine List.pairwise_append.2 ⟨a.nd,b.nd,fun x hx y hy e=>?_⟩
  obtain⟨h2,_,h4⟩:=a.all x hx
  obtain⟨_,_,h5⟩:=b.all y hy
  exact hdis x h2 h4 (e ▸ h5)
theorem Pol.Sqf.of_dvs {a b:Pol K} (h:Sqf b) (d:Dvs a b):Sqf a:=fun P hP k=>h P hP (k.trans d)
theorem Pol.Sqf.dis {f g h:Pol K} (hs:Sqf f) (hf:f=h*g) {P:Pol K} (hP:Irr P) (hg:Dvs P g):¬ Dvs P h:=fun hh=>hs P hP (by
 obtain⟨x,rfl⟩:=hg
 obtain⟨y,rfl⟩:=hh
 exact⟨y*x,by rw[hf];exact RE.eq [P,y,x] (t0*t1*(t0*t2)) (t0*t0*(t1*t2)) rfl⟩)
structure Eqd (d : Nat) (f : Pol K) : Prop where
 ne:f≠0
 lead:f.lead=1
 sqf:Sqf f
 deg:∀ P,Irr P->Dvs P f->P.len=d+1
theorem Eqd.of_dvs {d:Nat} {f g:Pol K} (h:Eqd d f) (hd:Dvs g f) (hl:g.lead=1):Eqd d g :=
 ⟨fun e=>h.ne (by obtain⟨x,hx⟩:=hd;rw[hx,e,zero_mul]),hl,h.sqf.of_dvs hd,fun P hP k=>h.deg P hP (k.trans hd)⟩
theorem irr_of_small {P f:Pol K} (hP:Irr P) (hd:Dvs P f) (h0:f≠0) (hl:f.len≤P.len):Irr f:=by
 obtain⟨x,hx⟩:=hd
 have hx0:x≠0:=fun e=>h0 (by rw[hx,e,mul_zero])
 have h1:=len_mul hP.ne hx0
 rw[← hx]at h1
 have h2:=len_pos hx0
 obtain⟨w,hw,_⟩:=unit (a:=x) (by omega)
 refine hP.assoc ⟨w,?_⟩ ⟨x,hx⟩ (by omega)
 rw[hx,Crg.mul_assoc,hw,Crg.mul_one]
theorem Eqd.small {d:Nat} {f:Pol K} (h:Eqd d f) (hl:f.len≤d+1) (h2:2≤f.len):Irr f:=by
 obtain⟨P,hP,hd⟩:=ex_irr f.len f (Nat.le_refl _) h2
 exact irr_of_small hP hd h.ne (by have:=h.deg P hP hd;omega)
theorem Eqd.two {d:Nat} {f:Pol K} (h:Eqd d f) (hl:d+1<f.len) (hd1:1≤d):∃ P S,Irr P/\Irr S/\P.lead=1/\S.lead=1/\P.len=d+1/\S.len=d+1/\P≠S/\Dvs P f/\Dvs S f:=by
 have mk:∀ g:Pol K,Dvs g f->2≤g.len->∃ P,Irr P/\P.lead=1/\Dvs P g:=fun g hg h2=>by
  obtain⟨P,hP,hd⟩:=ex_irr g.len g (Nat.le_refl _) h2
  obtain⟨M,lM,mM,g1,g2⟩:=monic_of hP.ne
  exact⟨M,hP.assoc g1 g2 lM,mM,g1.trans hd⟩
 obtain⟨P,hP,mP,c,hc⟩:=mk f (Dvs.refl f) (by omega)
 have lP:=h.deg P hP ⟨c,hc⟩
 have hc0:c≠0:=fun e=>h.ne (by rw[hc,e,mul_zero])
 have h1:=len_mul hP.ne hc0
 rw[← hc]at h1
 obtain⟨S,hS,mS,hSc⟩:=mk c ⟨P,by rw[hc,Crg.mul_comm]⟩ (by omega)
 have dS:Dvs S f:=hSc.trans ⟨P,by rw[hc,Crg.mul_comm]⟩
 refine⟨P,S,hP,hS,mP,mS,lP,h.deg S hS dS,fun e=>?_,⟨c,hc⟩,dS⟩
 exact h.sqf.dis (h:=P) (g:=c) hc hS hSc (e ▸ Dvs.refl P)
end
section
variable {p:Int} [hp:Prm p]
theorem splits_gcd {f t g:Pol (Zp p)} (hs:Splits f t) (hg:Gc f t g) (hf:f≠0):1<g.len/\g.len<f.len:=by
 obtain⟨P,S,hP,hS,dP,dS,kP,kS⟩:=hs
 have h1:=(hg.gr P dP kP).len hg.ne
 have:=hP.two
 refine⟨by omega,?_⟩
 obtain⟨x,hx⟩:=hg.da
 have hx0:x≠0:=fun e=>hf (by rw[hx,e,mul_zero])
 have h2:=len_mul hg.ne hx0
 rw[← hx]at h2
 have h3:=len_pos hx0
 rcases Nat.lt_or_ge x.len 2 with h4 | h4
 ·obtain⟨w,hw,_⟩:=unit (a:=x) (by omega)
  have:Dvs f g:=⟨w,by rw[hx,Crg.mul_assoc,hw,Crg.mul_one]⟩
  exact absurd ((dS.trans this).trans hg.db) kS
 ·omega
theorem splits_cgr {f t s:Pol (Zp p)} (hs:Splits f t) (h:Cgr f t s):Splits f s:=by
 obtain⟨P,S,hP,hS,dP,dS,kP,kS⟩:=hs
 have key:∀ {Q a b:Pol (Zp p)},Dvs Q f->Cgr f a b->Dvs Q a->Dvs Q b:=fun hq h ha=>by
  have:=ha.sub (hq.trans h)
  rwa [show ∀ a b:Pol (Zp p),a-(a-b)=b from fun a b=>RE.eq [a,b] (t0-(t0-t1)) t1 rfl]at this
 exact⟨P,S,hP,hS,dP,dS,key dP h kP,fun k=>kS (key dS h.symm k)⟩
/-! ### By multiplicity -/
structure SqI (f : Pol (Zp p)) (e : Nat) (s r : Pol (Zp p)) : Prop where
 s0:s≠0
 sl:s.lead=1
 r0:r≠0
 rl:r.lead=1
 vs:∀ P,Irr P->val P s=if val P f%p.toNat≠0/\e≤val P f then 1 else 0
 vr:∀ P,Irr P->val P r=if val P f%p.toNat=0 then val P f else val P f-e
theorem SqI.start {f s r:Pol (Zp p)} (hf:f≠0) (lf:f.lead=1) (hd:dv f≠0) (hg:Gc f (dv f) r) (hs:f=s*r):SqI f 1 s r:=by
 obtain⟨s0,_,sl⟩:=lead_quo hs hf lf hg.lead
 have vr:∀ P,Irr P->val P r=if val P f%p.toNat=0 then val P f else val P f-1:=fun P hP=>by
  have h1:=hg.val hP hf hd
  obtain⟨h2,h3⟩:=val_dv hP hf hd
  split
  ·rename_i h
   have:=h2 h
   omega
  ·rename_i h
   have:=h3 h
   omega
 refine⟨s0,sl,hg.ne,hg.lead,fun P hP=>?_,vr⟩
 have h1:=val_mul hP s0 hg.ne
 rw[← hs,vr P hP]at h1
 split
 ·rename_i h
  rw[if_neg h.1]at h1
  omega
 ·rename_i h
  split at h1
  ·omega
  ·rename_i h4
   exact absurd ⟨h4,by
    rcases Nat.eq_zero_or_pos (val P f)with h5 | h5
    ·exact absurd (by rw[h5];exact Nat.zero_mod _) h4
    ·omega⟩ h
theorem SqI.step {f s r m o r':Pol (Zp p)} {e:Nat} (h:SqI f e s r) (hg:Gc s r m) (ho:s=o*m) (hr:r=r'*m):SqI f (e+1) m r'/\o≠0/\o.lead=1/\Sqf o/\Dvs o f/\∀ P,Irr P->(Dvs P o↔val P f%p.toNat≠0/\val P f=e):=by
 obtain⟨o0,_,ol⟩:=lead_quo ho h.s0 h.sl hg.lead
 obtain⟨r0,_,rl⟩:=lead_quo hr h.r0 h.rl hg.lead
 have vm:∀ P,Irr P->val P m=if val P f%p.toNat≠0/\e+1≤val P f then 1 else 0:=fun P hP=>by
  rw[hg.val hP h.s0 h.r0,h.vs P hP,h.vr P hP]
  split <;> split <;> split <;> omega
 have vo:∀ P,Irr P->val P o=if val P f%p.toNat≠0/\val P f=e then 1 else 0:=fun P hP=>by
  have h1:=val_mul hP o0 hg.ne
  rw[← ho,h.vs P hP,vm P hP]at h1
  split at h1 <;> split at h1 <;> split <;> omega
 have hf:∀ P,Irr P->val P o≤val P f:=fun P hP=>by
  rw[vo P hP]
  split
  ·rename_i h1
   rcases Nat.eq_zero_or_pos (val P f)with h5 | h5
   ·exact absurd (by rw[h5];exact Nat.zero_mod _) h1.1
   ·omega
  ·omega
 refine⟨⟨hg.ne,hg.lead,r0,rl,vm,fun P hP=>?_⟩,o0,ol,(sqf_val o0).2 fun P hP=>by rw[vo P hP];split <;> omega,?_,fun P hP=>?_⟩
 ·have h1:=val_mul hP r0 hg.ne
  rw[← hr,h.vr P hP,vm P hP]at h1
  split at h1 <;> split at h1 <;> split <;> omega
 ·by_cases hf0:f=0
  ·rw[hf0];exact Dvs.zero o
  ·exact dvs_of_val _ (Nat.le_refl _) o0 hf0 hf
 ·rw[val_pos hP o0,vo P hP]
  split
  ·rename_i h1;exact⟨fun _=>h1,fun _=>by omega⟩
  ·rename_i h1;exact⟨fun h=>by omega,fun h=>absurd h h1⟩
theorem SqI.fin {f s r:Pol (Zp p)} {e:Nat} (h:SqI f e s r) (hl:s.len≤1):∀ P,Irr P->(val P f%p.toNat≠0->val P f<e)/\val P r=if val P f%p.toNat=0 then val P f else 0:=fun P hP=>by
 have h1:=h.vs P hP
 rw[one_of_len h.s0 hl h.sl,val_one hP]at h1
 have key:val P f%p.toNat≠0->val P f<e:=fun h2=>by
  split at h1
  ·omega
  ·rename_i h3
   exact Nat.lt_of_not_le fun h4=>h3 ⟨h2,h4⟩
 refine⟨key,?_⟩
 rw[h.vr P hP]
 split
 ·rfl
 ·rename_i h2
  have:=key h2
  omega
/-! ### By degree -/
structure BdI (f : Pol (Zp p)) (d : Nat) (c w : Pol (Zp p)) : Prop where
 ne:c≠0
 lead:c.lead=1
 dv:Dvs c f
 irr:∀ P,Irr P->(Dvs P c↔Dvs P f/\d+1≤P.len)
 pow:Cgr c w (pw X (p.toNat^(d-1)))
theorem BdI.start {f:Pol (Zp p)} (hf:f≠0) (lf:f.lead=1):BdI f 1 f X :=
 ⟨hf,lf,Dvs.refl f,fun P hP=>⟨fun h=>⟨h,hP.two⟩,fun h=>h.1⟩,by rw[Nat.sub_self,Nat.pow_zero,pw_one];exact Cgr.refl _ _⟩
theorem BdI.step {f c w w' w'' g c':Pol (Zp p)} {d:Nat} (hd:1≤d) (hs:Sqf f) (h:BdI f d c w) (hw:Cgr c w' (pw w p.toNat)) (hg:Gc c (w'-X) g) (hc:c=c'*g) (hw2:Cgr c' w'' w'):BdI f (d+1) c' w''/\Eqd d g/\Dvs g f/\∀ P,Irr P->(Dvs P g↔Dvs P f/\P.len=d+1):=by
 obtain⟨c0,_,cl⟩:=lead_quo hc h.ne h.lead hg.lead
 have pw1:Cgr c w' (pw X (p.toNat^d)):=by
  refine hw.trans ?_
  have:=h.pow.pw p.toNat
  rwa [← pw_mul,← Nat.pow_succ,show(d-1).succ=d by omega]at this
 have key:∀ P,Irr P->(Dvs P g↔Dvs P f/\P.len=d+1):=fun P hP=>by
  have ht:=hP.two
  rw[hg.irr,h.irr P hP]
  have e:Dvs P f->d+1≤P.len->(Dvs P (w'-X)↔P.len-1∣d):=fun h1 h2=>by
   rw[← irr_dvs_fro hP]
   have hPc:Dvs P c:=(h.irr P hP).2 ⟨h1,h2⟩
   have hc1:Cgr P w' (pw X (p.toNat^d)):=pw1.mono hPc
   exact⟨fun k=>hc1.symm.trans k,fun k=>hc1.trans k⟩
  refine⟨fun⟨⟨h1,h2⟩,h3⟩=>⟨h1,?_⟩,fun⟨h1,h2⟩=>⟨⟨h1,by omega⟩,(e h1 (by omega)).2 (by rw[h2];exact Nat.dvd_refl _)⟩⟩
  have:=Nat.le_of_dvd (by omega) ((e h1 h2).1 h3)
  omega
 have dg:Dvs g f:=hg.da.trans h.dv
 refine⟨⟨c0,cl,(show Dvs c' c from⟨g,hc⟩).trans h.dv,fun P hP=>?_,hw2.trans (pw1.mono ⟨g,hc⟩)⟩,⟨hg.ne,hg.lead,hs.of_dvs dg,fun P hP k=>((key P hP).1 k).2⟩,dg,key⟩
 have hsc:Sqf c:=hs.of_dvs h.dv
 refine⟨fun k=>?_,fun⟨h1,h2⟩=>?_⟩
 ·have k1:=(h.irr P hP).1 (k.trans ⟨g,hc⟩)
  refine⟨k1.1,?_⟩
  rcases Nat.lt_or_ge P.len (d+1+1)with h3 | h3
  ·exact absurd k (hsc.dis hc hP ((key P hP).2 ⟨k1.1,by omega⟩))
  ·exact h3
 ·have k1:=(h.irr P hP).2 ⟨h1,by omega⟩
  rw[hc]at k1
  rcases hP.prime k1 with h3 | h3
  ·exact h3
  ·have:=((key P hP).1 h3).2
   omega
theorem BdI.exit {f c w:Pol (Zp p)} {d:Nat} (h:BdI f d c w) (h2:2≤c.len) (hl:c.len-1<2*d):Irr c:=by
 obtain⟨P,hP,x,hx⟩:=ex_irr c.len c (Nat.le_refl _) h2
 have h1:=((h.irr P hP).1 ⟨x,hx⟩).2
 have hx0:x≠0:=fun e=>h.ne (by rw[hx,e,mul_zero])
 have h3:=len_mul hP.ne hx0
 rw[← hx]at h3
 rcases Nat.lt_or_ge x.len 2 with h4 | h4
 ·exact irr_of_small hP ⟨x,hx⟩ h.ne (by have:=len_pos hx0;omega)
 ·obtain⟨S,hS,hSx⟩:=ex_irr x.len x (Nat.le_refl _) h4
  have h5:=((h.irr S hS).1 (hSx.trans ⟨P,by rw[hx,Crg.mul_comm]⟩)).2
  have h6:=hSx.len hx0
  omega
end
end Go.Proofs.YtibaocbpeaejkaaGreat
/- The list of irreducible divisors with exponents; their product. Plain: no program. -/
namespace Go.Proofs.YtibaocbpeaejkaaGreat
open Crg Pol
section
variable {K:Type} [Fld K]
structure FacL (f : Pol K) (t : Nat) (l : List (Pol K × Nat)) : Prop where
 all:∀ c∈l,Irr c.1/\c.1.lead=1/\Dvs c.1 f/\c.2=t*val c.1 f
 mem:∀ P,Irr P->P.lead=1->Dvs P f->(P,t*val P f)∈l
 nd:l.Pairwise fun a b=>a.1≠b.1
open Classical in
theorem val_irr {P M:Pol K} (hP:Irr P) (hM:Irr M) (lP:P.lead=1) (lM:M.lead=1):val P M=if P=M then 1 else 0:=by
 split
 ·rename_i e
  rw[← e]
  have:=val_of (h:=1) hP hP.not_one 1
  rwa [pw_one,Crg.mul_one]at this
 ·rename_i e
  have:=val_of (h:=M) hP (fun h=>e (hP.eq hM lP lM h)) 0
  rwa [show pw P 0*M=M from one_mul M]at this
theorem pw_ne_zero {a:Pol K} (h:a≠0) (n:Nat):pw a n≠0:=(len_pw_eq h n).2
theorem val_pw {P a : Pol K} (hP : Irr P) (ha : a ≠ 0) : ∀ n, val P (pw a n) = n * val P a
 | 0=>by rw[Nat.zero_mul];exact val_one hP
 | n+1=>by
  show val P (pw a n*a)=_
  rw[val_mul hP (pw_ne_zero ha n) ha,val_pw hP ha n,Nat.succ_mul]
noncomputable def prL : List (Pol K × Nat) → Pol K
 | []=>1
 | c :: l=>pw c.1 c.2*prL l
theorem prL_ne {l:List (Pol K × Nat)} (h:∀ c∈l,c.1≠0):prL l≠0:=by
 induction l with
 | nil=>exact Pol.one_ne
 | cons c l ih =>
  intro e
  rcases domain e with h1 | h1
  ·exact pw_ne_zero (h c (by simp)) _ h1
  ·exact ih (fun c hc=>h c (by simp[hc])) h1
theorem lead_pw {a : Pol K} (h : a ≠ 0) (hl : a.lead = 1) : ∀ n, (pw a n).lead = 1
 | 0=>lead_one
 | n+1=>by
  show(pw a n*a).lead=1
  rw[lead_mul (pw_ne_zero h n) h,lead_pw h hl n,hl,Crg.mul_one]
theorem prL_lead {l:List (Pol K × Nat)} (h:∀ c∈l,c.1≠0/\c.1.lead=1):(prL l).lead=1:=by
 induction l with
 | nil=>exact lead_one
 | cons c l ih =>
  have h1:=h c (by simp)
  have h2:=ih fun c hc=>h c (by simp[hc])
  show(pw c.1 c.2*prL l).lead=1
  rw[lead_mul (pw_ne_zero h1.1 _) (prL_ne fun c hc=>(h c (by simp[hc])).1),lead_pw h1.1 h1.2,h2,Crg.mul_one]
theorem prL_len {l:List (Pol K × Nat)} (h:∀ c∈l,c.1≠0):(prL l).len=(l.foldr (fun c s=>c.2*(c.1.len-1)+s) 0)+1:=by
 induction l with
 | nil=>exact len_one
 | cons c l ih =>
  have h1:=h c (by simp)
  have h2:=ih fun c hc=>h c (by simp[hc])
  have h3:=len_mul (pw_ne_zero h1 c.2) (prL_ne (l:=l) fun d hd=>h d (List.mem_cons_of_mem _ hd))
  rw[(len_pw_eq h1 c.2).1,h2]at h3
  show(pw c.1 c.2*prL l).len=c.2*(c.1.len-1)+l.foldr (fun c s=>c.2*(c.1.len-1)+s) 0+1
  omega
open Classical in
theorem prL_val {P : Pol K} (hP : Irr P) (lP : P.lead = 1) : ∀ {l : List (Pol K × Nat)}, (∀ c ∈ l, Irr c.1 ∧ c.1.lead = 1) → l.Pairwise (fun a b => a.1 ≠ b.1) → (∀ e, (P, e) ∈ l → val P (prL l) = e) ∧ ((∀ e, (P, e) ∉ l) → val P (prL l) = 0)
 | [],_,_=>⟨fun e h=>absurd h (by simp),fun _=>val_one hP⟩
 | c :: l,h,hn=>by
  rw[List.pairwise_cons]at hn
  have hc:=h c (by simp)
  obtain⟨h1,h2⟩:=prL_val hP lP (fun c hc=>h c (by simp[hc])) hn.2
  have e1:val P (prL (c :: l))=c.2*(if P=c.1 then 1 else 0)+val P (prL l):=by
   show val P (pw c.1 c.2*prL l)=_
   rw[val_mul hP (pw_ne_zero hc.1.ne _) (prL_ne fun c hc=>(h c (by simp[hc])).1.ne),val_pw hP hc.1.ne,val_irr hP hc.1 lP hc.2]
  refine⟨fun e he=>?_,fun hno=>?_⟩
  ·rw[e1]
   rcases List.mem_cons.1 he with h3 | h3
   ·have h4:val P (prL l)=0:=h2 fun e' he'=>hn.1 _ he' (by rw[← h3])
    rw[h4,← h3,if_pos rfl,Nat.mul_one,Nat.add_zero]
   ·rw[if_neg (fun h4=>hn.1 _ h3 h4.symm),Nat.mul_zero,Nat.zero_add]
    exact h1 e h3
  ·rw[e1,if_neg (fun h4=>hno c.2 (by rw[h4];simp)),Nat.mul_zero,Nat.zero_add]
   exact h2 fun e he=>hno e (by simp[he])
theorem val_assoc {P M f:Pol K} (hP:Irr P) (hM:Irr M) (hf:f≠0) (h1:Dvs P M) (h2:Dvs M P):val P f=val M f:=by
 have key:∀ {P M:Pol K} (e:Nat),Dvs P M->Dvs (pw P e) (pw M e):=fun e h=>by
  obtain⟨x,hx⟩:=h
  exact⟨pw x e,by rw[hx,mul_pw]⟩
 have a:=(val_iff hP hf).1 ((key _ h1).trans ((val_iff hM hf).2 (Nat.le_refl _)))
 have b:=(val_iff hM hf).1 ((key _ h2).trans ((val_iff hP hf).2 (Nat.le_refl _)))
 omega
theorem FacL.prod {f:Pol K} {l:List (Pol K × Nat)} (h:FacL f 1 l) (hf:f≠0) (lf:f.lead=1):f=prL l:=by
 have hall:=fun c hc=>(h.all c hc)
 have h0:prL l≠0:=prL_ne fun c hc=>(hall c hc).1.ne
 refine eq_of_val hf h0 lf (prL_lead fun c hc=>⟨(hall c hc).1.ne,(hall c hc).2.1⟩) fun P hP=>?_
 obtain⟨M,lM,mM,g1,g2⟩:=monic_of hP.ne
 have iM:=hP.assoc g1 g2 lM
 rw[val_assoc hP iM hf g2 g1,val_assoc hP iM h0 g2 g1]
 obtain⟨h1,h2⟩:=prL_val iM mM (fun c hc=>⟨(hall c hc).1,(hall c hc).2.1⟩) h.nd
 by_cases hd:Dvs M f
 ·have:=h1 _ (h.mem M iM mM hd)
  rw[this,Nat.one_mul]
 ·rw[h2 fun e he=>hd (hall _ he).2.2.1]
  have:¬ 1≤val M f:=fun k=>hd ((val_pos iM hf).2 k)
  omega
end
end Go.Proofs.YtibaocbpeaejkaaGreat
/- Small laws of polynomials that the walks ask for. Plain: no program. -/
namespace Go.Proofs.YtibaocbpeaejkaaGreat
open Crg Pol
section
variable {K:Type} [Fld K]
theorem cgr_of_div {a b q r:Pol K} (h:a=q*b+r):Cgr b a r:=⟨q,by
 rw[h]
 exact RE.eq [q,b,r] (t0*t1+t2-t2) (t1*t0) rfl⟩
theorem div_unique {a b q r q' r':Pol K} (h:a=q*b+r) (hr:r.len<b.len) (h':a=q'*b+r') (hr':r'.len<b.len):q'=q/\r'=r:=by
 have er:r'=r:=((cgr_of_div h').symm.trans (cgr_of_div h)).eq hr' hr
 subst er
 have hb0:b≠0:=ne_of_len (by omega)
 have h4:=add_right_cancel (h'.symm.trans h)
 rw[Crg.mul_comm,Crg.mul_comm q]at h4
 exact⟨cancel hb0 h4,rfl⟩
theorem euclid_step {a b q r g u v:Pol K} (h:a=q*b+r) (h1:g=u*b+v*r):g=v*a+(u-v*q)*b:=by
 rw[h1,h]
 exact RE.eq [u,b,v,r,q] (t0*t1+t2*t3) (t2*(t4*t1+t3)+(t0-t2*t4)*t1) rfl
noncomputable def Pol.qo (a b:Pol K):Pol K:=open Classical in if h:b=0 then 0 else(div_ex a h).choose
theorem Pol.qo_spec (a:Pol K) {b:Pol K} (h:b≠0):a=qo a b*b+rm a b:=by
 unfold qo rm
 rw[dif_neg h,dif_neg h]
 exact(div_ex a h).choose_spec.choose_spec.1
theorem mul_3 (a b c:Pol K):a*b*c=a*c*b:=RE.eq [a,b,c] (t0*t1*t2) (t0*t2*t1) rfl
end
end Go.Proofs.YtibaocbpeaejkaaGreat
/- Lists in normal form as polynomials over the field of p elements; the operations' contracts over polynomials. -/
namespace Go.Proofs.YtibaocbpeaejkaaGreat
open Go.RowKit
noncomputable def ofP {p:Int} [Prm p] (a:Pol (Zp p)):Fp.L:=(a.len,fun i=>(a.f i).v)
noncomputable abbrev pl {p:Int} [Prm p] (a:Pol (Zp p)):V:=Fp.cl (ofP a)
theorem prm_of {p:Int} (hp:Fp.md p):Prm p:=⟨hp.1,fun a ha=>⟨Fp.inv a p,by
 have h1:=Int.emod_nonneg a (show p≠0 by have:=hp.1;omega)
 have:=Fp.inv_spec (c:=a) hp (by omega)
 rwa [Int.mul_comm]at this⟩⟩
section
variable {p:Int} [hp:Prm p]
theorem ofP_NL (a:Pol (Zp p)) (h:a.len≤4096):Fp.NL p (ofP a):=by
 refine⟨h,fun i=>(a.f i).r,fun j hj=>?_,?_⟩
 ·show(a.f j).v=0
  rw[Pol.len_out a j hj]
  exact Int.zero_emod p
 ·show Fp.tl (fun i=>(a.f i).v) a.len=a.len
  exact Fp.tl_full fun h0=>fun e=>Pol.len_top a (k:=a.len-1) (by omega) (Zp.v_zero.1 e)
theorem ofP_eq {x:Fp.L} {a:Pol (Zp p)} (hx:Fp.NL p x) (h:∀ i,(Zp.red (x.2 i):Zp p)=a.f i):x=ofP a:=by
 have e:∀ i,x.2 i=(a.f i).v:=fun i=>by
  rw[← h i]
  show x.2 i=x.2 i%p
  rw[Int.emod_eq_of_lt (hx.r i).1 (hx.r i).2]
 have e2:x.2=fun i=>(a.f i).v:=funext e
 have e1:x.1=a.len:=by
  refine Nat.le_antisymm ?_ (Pol.len_le fun j hj=>?_)
  ·rcases Nat.lt_or_ge a.len x.1 with h1 | h1
   ·have:=hx.l (by omega)
    rw[e,Pol.len_out a _ (by omega)]at this
    exact absurd (Int.zero_emod p) this
   ·exact h1
  ·rw[← h j,hx.z j hj]
   rfl
 exact Prod.ext e1 e2
theorem red_v' (a:Pol (Zp p)) (i:Nat):(Zp.red ((ofP a).2 i):Zp p)=a.f i:=Zp.red_v _
theorem red_su (f : Nat → Int) : ∀ n, (Zp.red (Fp.su f n) : Zp p) = Crg.sm (fun i => Zp.red (f i)) n
 | 0=>rfl
 | n+1=>by
  show Zp.red (Fp.su f n+f n)=_+_
  rw[Zp.red_add,red_su f n]
theorem red_cf (F G:Nat->Int) (k:Nat):(Zp.red (Fp.cf F G k):Zp p)=Pol.cv (fun i=>Zp.red (F i)) (fun i=>Zp.red (G i)) k:=by
 unfold Fp.cf Pol.cv
 rw[red_su]
 exact Crg.sm_congr fun i _=>Zp.red_mul _ _
theorem red_cg {A B:Nat->Int} (h:Fp.Cg p A B) (i:Nat):(Zp.red (A i):Zp p)=Zp.red (B i):=Zp.red_eq.2 (h i)
theorem red_cf' (a b:Pol (Zp p)) (k:Nat):(Zp.red (Fp.cf (ofP a).2 (ofP b).2 k):Zp p)=(a*b).f k:=by
 rw[red_cf]
 show Pol.cv _ _ k=Pol.cv a.f b.f k
 rw[show(fun i=>(Zp.red ((ofP a).2 i):Zp p))=a.f from funext fun i=>red_v' a i,show(fun i=>(Zp.red ((ofP b).2 i):Zp p))=b.f from funext fun i=>red_v' b i]
variable (hm:Fp.md p)
include hm
theorem mul_of (a b:Pol (Zp p)) (ha:a.len≤2048) (hb:b.len≤2048):Fp.mulL p (ofP a) (ofP b)=ofP (a*b) :=
 ofP_eq (Fp.NL.mul hm (ofP_NL b (by omega)) (by show a.len+b.len≤4096;omega)) fun i=>by
  rw[red_cg (Fp.pr_cf (ofP_NL a (by omega))) i,red_cf']
theorem sub_of (a b:Pol (Zp p)) (ha:a.len≤4096) (hb:b.len≤4096):Fp.subL p (ofP a) (ofP b)=ofP (a-b) :=
 ofP_eq (Fp.NL.sub hm (ofP_NL a ha) (ofP_NL b hb)) fun i=>by
  rw[red_cg (Fp.sub_cg _ _) i,Zp.red_sub,red_v',red_v',Pol.f_sub]
theorem add_of (a b:Pol (Zp p)) (ha:a.len≤4096) (hb:b.len≤4096):Fp.addL p (ofP a) (ofP b)=ofP (a+b) :=
 ofP_eq (Fp.NL.add hm (ofP_NL a ha) (ofP_NL b hb)) fun i=>by
  rw[red_cg (Fp.add_cg _ _) i,Zp.red_add,red_v',red_v',Pol.f_add]
theorem sc_of (c:Int) (a:Pol (Zp p)) (ha:a.len≤4096):Fp.scL p c (ofP a)=ofP (Pol.C (Zp.red c)*a) :=
 ofP_eq (Fp.NL.sc hm (ofP_NL a ha)) fun i=>by
  rw[red_cg (Fp.sc_cg _) i,Zp.red_mul,red_v',Pol.C_mul]
theorem div_of {a b q r:Pol (Zp p)} (ha:a.len≤4096) (hb:b.len≤4096) (h:a=q*b+r) (hr:r.len<b.len):Fp.quoL p (ofP a) (ofP b)=ofP q/\Fp.rstL p (ofP a) (ofP b)=ofP r:=by
 have nb:=ofP_NL b hb
 have na:=ofP_NL a ha
 have h0:0<(ofP b).1:=by show 0<b.len;omega
 have nq:=Fp.NL.quo hm na nb h0
 obtain⟨nr,lr⟩:=Fp.NL.rst hm na nb h0
 have hd:=Fp.div_cg hm na nb h0
 generalize Fp.quoL p (ofP a) (ofP b)=x at *
 generalize Fp.rstL p (ofP a) (ofP b)=y at *
 have back:∀ {z:Fp.L},Fp.NL p z->∃ c:Pol (Zp p),z=ofP c:=fun {z} hz=>by
  refine⟨⟨fun i=>Zp.red (z.2 i),z.1,fun j hj=>by rw[hz.z j hj];rfl⟩,ofP_eq hz fun _=>rfl⟩
 obtain⟨q',rfl⟩:=back nq
 obtain⟨r',rfl⟩:=back nr
 have e:a=q'*b+r':=Pol.ext fun i=>by
  have:=red_cg (p:=p) hd i
  rw[red_v',Zp.red_add,red_cf',red_v']at this
  exact this
 have lr:r'.len<b.len:=lr
 obtain⟨e1,e2⟩:=div_unique h hr e lr
 rw[e1,e2]
 exact⟨rfl,rfl⟩
theorem times_P {a b:Pol (Zp p)} (ha:a.len≤1024) (hb:b.len≤1024):FnOK Tryz.prog false 69 [.c (.int .i64 p),pl a,pl b] (pl (a*b)):=by
 rw[show pl (a*b)=Fp.cl (Fp.mulL p (ofP a) (ofP b))by rw[mul_of hm a b (by omega) (by omega)]]
 exact Fp.times_L hm (ofP_NL a (by omega)) (ofP_NL b (by omega)) ha hb
theorem subs_P {a b:Pol (Zp p)} (ha:a.len≤4096) (hb:b.len≤4096):FnOK Tryz.prog false 132 [.c (.int .i64 p),pl a,pl b,.c (.int .i64 (p-1))] (pl (a-b)):=by
 rw[show pl (a-b)=Fp.cl (Fp.subL p (ofP a) (ofP b))by rw[sub_of hm a b ha hb]]
 exact Fp.subs_L hm (ofP_NL a ha) (ofP_NL b hb)
theorem adds_P {a b:Pol (Zp p)} (ha:a.len≤4096) (hb:b.len≤4096):FnOK Tryz.prog false 132 [.c (.int .i64 p),pl a,pl b,.c (.int .i64 1)] (pl (a+b)):=by
 rw[show pl (a+b)=Fp.cl (Fp.addL p (ofP a) (ofP b))by rw[add_of hm a b ha hb]]
 exact Fp.adds_L hm (ofP_NL a ha) (ofP_NL b hb)
theorem divide_P {a b q r:Pol (Zp p)} (ha:a.len≤4096) (hb:b.len≤4096) (h:a=q*b+r) (hr:r.len<b.len):FnOK Tryz.prog false 104 [.c (.int .i64 p),pl a,pl b] (.t2 (pl q) (pl r)):=by
 obtain⟨e1,e2⟩:=div_of hm ha hb h hr
 rw[show(V.t2 (pl q) (pl r)) = .t2 (Fp.cl (Fp.quoL p (ofP a) (ofP b))) (Fp.cl (Fp.rstL p (ofP a) (ofP b)))by rw[e1,e2]]
 exact Fp.divide_L hm (ofP_NL a ha) (ofP_NL b hb) (by show 0<b.len;omega)
theorem gc_of : ∀ (t : Nat) {a b : Pol (Zp p)}, a.len ≤ 4096 → b.len ≤ 4096 → b.len ≤ t → ∃ g : Pol (Zp p), Fp.gc p t (ofP a).1 (ofP a).2 (ofP b).1 (ofP b).2 = ofP g ∧ g.len ≤ 4096 ∧ Pol.Dvs g a ∧ Pol.Dvs g b ∧ ∃ u v, g = u * a + v * b
 | 0,a,b,ha,hb,ht=>by
  refine⟨a,rfl,ha,Pol.Dvs.refl a,?_,1,0,by rw[Crg.one_mul,Crg.zero_mul,Crg.add_zero]⟩
  rw[Pol.len_nil (a:=b) (by omega)]
  exact Pol.Dvs.zero a
 | t+1,a,b,ha,hb,ht=>by
  by_cases h0:b.len=0
  ·refine⟨a,?_,ha,Pol.Dvs.refl a,?_,1,0,by rw[Crg.one_mul,Crg.zero_mul,Crg.add_zero]⟩
   ·show(if b.len=0 then _ else _)=_
    rw[if_pos h0]
   ·rw[Pol.len_nil h0]
    exact Pol.Dvs.zero a
  ·have hb0:b≠0:=Pol.ne_of_len (by omega)
   obtain⟨q,r,e,hr⟩:=Pol.div_ex a hb0
   obtain⟨_,e2⟩:=div_of hm ha hb e hr
   obtain⟨g,h1,h2,h3,h4,u,v,h5⟩:=gc_of t (a:=b) (b:=r) hb (by omega) (by omega)
   refine⟨g,?_,h2,?_,h3,v,u-v*q,?_⟩
   ·show(if b.len=0 then _ else Fp.gc p t (ofP b).1 (ofP b).2 (Fp.rstL p (ofP a) (ofP b)).1 (Fp.rstL p (ofP a) (ofP b)).2)=_
    rw[if_neg h0,e2,h1]
   ·rw[e]
    exact(h3.mul' q).add h4
   ·exact euclid_step e h5
theorem mo_of {g:Pol (Zp p)} (hg:g≠0) (hl:g.len≤4096):∃ m:Pol (Zp p),Fp.moL p (ofP g)=ofP m/\m.lead=1/\Pol.Dvs m g/\Pol.Dvs g m/\m.len=g.len:=by
 have h0:=Pol.len_pos hg
 have hi:=Fp.lead_inv hm (ofP_NL g hl) (show 0<(ofP g).1 from h0)
 obtain⟨c,hc⟩:∃ c:Zp p,c=Zp.red (Fp.inv ((ofP g).2 ((ofP g).1-1)) p):=⟨_,rfl⟩
 have h1:c*g.lead=1:=by
  have:=(Zp.red_eq (p:=p)).2 hi
  rw[Zp.red_mul,← hc,red_v']at this
  exact this
 have c0:c≠0:=fun e=>by
  rw[e,Crg.zero_mul]at h1
  exact Fld.one_ne h1.symm
 have hC:(Pol.C c:Pol (Zp p))≠0:=Pol.ne_of_len (by rw[Pol.len_C c0];omega)
 have hl2:(Pol.C c*g).len=g.len:=by
  have:=Pol.len_mul hC hg
  rw[Pol.len_C c0]at this
  omega
 refine⟨Pol.C c*g,?_,?_,⟨Pol.C g.lead,?_⟩,(Pol.Dvs.refl g).mul' _,hl2⟩
 ·show Fp.scL p _ (ofP g)=_
  rw[sc_of hm _ g hl,← hc]
 ·show(Pol.C c*g).f ((Pol.C c*g).len-1)=1
  rw[hl2,Pol.C_mul]
  exact h1
 ·rw[mul_3,Pol.C_mul_C,h1]
  exact(Crg.one_mul g).symm
theorem gcd_P {a b:Pol (Zp p)} (ha:a.len≤4096) (hb:b.len≤4096) (hne:a≠0∨b≠0):∃ g,Gc a b g/\FnOK Tryz.prog false 103 [.c (.int .i64 p),pl a,pl b] (pl g):=by
 obtain⟨g,h1,h2,h3,h4,u,v,h5⟩:=gc_of hm b.len ha hb (Nat.le_refl _)
 have hg:g≠0:=fun e=>by
  rcases hne with h | h
  ·obtain⟨x,hx⟩:=h3;exact h (by rw[hx,e,Crg.zero_mul])
  ·obtain⟨x,hx⟩:=h4;exact h (by rw[hx,e,Crg.zero_mul])
 obtain⟨m,e1,e2,e3,e4,e5⟩:=mo_of hm hg h2
 refine⟨m,⟨e2,Pol.ne_of_len (by rw[e5];exact Pol.len_pos hg),e3.trans h3,e3.trans h4,fun x k1 k2=>?_⟩,?_⟩
 ·refine Pol.Dvs.trans ?_ e4
  rw[h5]
  exact(k1.mul' u).add (k2.mul' v)
 ·have:=Fp.gcd_ok hm (ofP_NL a ha) (ofP_NL b hb)
  have e:Fp.gc p (ofP b).1 (ofP a).1 (ofP a).2 (ofP b).1 (ofP b).2=ofP g:=h1
  rw[e]at this
  have e6:(Fp.tl (Fp.mo p (ofP g)) (ofP g).1,Fp.mo p (ofP g))=ofP m:=e1
  show FnOK _ _ _ _ (Fp.cl (ofP m))
  rw[← e6]
  exact this
theorem deriv_P {a:Pol (Zp p)} (ha:a.len≤4096):FnOK Tryz.prog false 101 [.c (.int .i64 p),pl a] (pl (Pol.dv a)):=by
 have:=Fp.derivative_ok hm.1 hm.2.1 ha (ofP_NL a ha).r
 have e:(Fp.tl (Fp.dv p (ofP a).2) (a.len-1),Fp.dv p (ofP a).2)=ofP (Pol.dv a):=by
  have hr:∀ i,0≤Fp.dv p (ofP a).2 i/\Fp.dv p (ofP a).2 i<p:=fun i=>⟨Int.emod_nonneg _ (by have:=hm.1;omega),Int.emod_lt_of_pos _ (by have:=hm.1;omega)⟩
  have hz:∀ j,a.len-1≤j->Fp.dv p (ofP a).2 j=0:=fun j hj=>by
   unfold Fp.dv
   rw[(ofP_NL a ha).z (j+1) (by show a.len≤j+1;omega),Int.mul_zero,Int.zero_emod]
  refine ofP_eq ⟨Nat.le_trans (Fp.tl_le _ _) (by omega),hr,Fp.tl_behind hz,Fp.tl_tl _ _⟩ fun i=>?_
  ·show Zp.red ((((i+1:Nat):Int)%p*(ofP a).2 (i+1))%p)=Crg.nc (i+1)*a.f (i+1)
   rw[Zp.nc_red,← red_v' a (i+1),← Zp.red_mul]
   exact Zp.red_eq.2 (by rw[Int.emod_emod_of_dvd _ (Int.dvd_refl p),Zp.em1])
 show FnOK _ _ _ _ (Fp.cl (ofP (Pol.dv a)))
 rw[← e]
 exact this
omit hm in
theorem red_pw (a : Pol (Zp p)) : ∀ (n i : Nat), (Zp.red (Fp.pw (ofP a).2 n i) : Zp p) = (Crg.pw a n).f i
 | 0,i=>by
  show Zp.red (if i=0 then 1 else 0)=if i=0 then 1 else 0
  split <;> rfl
 | n+1,i=>by
  show Zp.red (Fp.cf (ofP a).2 (Fp.pw (ofP a).2 n) i)=(Crg.pw a n*a).f i
  rw[red_cf,Crg.mul_comm]
  show Pol.cv _ _ i=Pol.cv a.f (Crg.pw a n).f i
  rw[show(fun i=>(Zp.red ((ofP a).2 i):Zp p))=a.f from funext fun i=>red_v' a i,show(fun i=>(Zp.red (Fp.pw (ofP a).2 n i):Zp p))=(Crg.pw a n).f from funext fun i=>red_pw a n i]
end
end Go.Proofs.YtibaocbpeaejkaaGreat
/- Plain facts on lists of digits to base 2^32: their value, carries, and uniqueness without leading zeros. No condition. -/
namespace Dg
def B:Nat:=4294967296
theorem B_eq:B=4294967296:=rfl
theorem B_pos:0<B:=by decide
def val : List Nat → Nat
 | []=>0
 | d :: l=>d+B*val l
def ok (l:List Nat):Prop:=∀ d∈l,d<B
theorem ok_nil:ok []:=by intro d h;cases h
theorem ok_cons {d:Nat} {l:List Nat}:ok (d :: l)↔d<B/\ok l:=by
 simp[ok]
theorem ok_get {l:List Nat} (h:ok l) {i:Nat} (hi:i<l.length):l[i]<B:=h _ (List.getElem_mem hi)
theorem ok_getD {l:List Nat} (h:ok l) (i:Nat):l[i]?.getD 0<B:=by
 cases hi:l[i]? with
 | none=>exact B_pos
 | some v=>exact h v (List.mem_of_getElem? hi)
theorem ok_take {l:List Nat} (h:ok l) (k:Nat):ok (l.take k):=fun d hd=>h d (List.mem_of_mem_take hd)
theorem ok_drop {l:List Nat} (h:ok l) (k:Nat):ok (l.drop k):=fun d hd=>h d (List.mem_of_mem_drop hd)
theorem ok_set {l:List Nat} (h:ok l) {i d:Nat} (hd:d<B):ok (l.set i d):=by
 intro x hx
 rcases List.mem_or_eq_of_mem_set hx with h1 | h1
 ·exact h x h1
 ·exact h1 ▸ hd
theorem ok_replicate (n:Nat):ok (List.replicate n 0):=by
 intro d hd;rw[List.eq_of_mem_replicate hd];exact B_pos
theorem val_append (a b:List Nat):val (a++b)=val a+B^a.length*val b:=by
 induction a with
 | nil=>simp[val]
 | cons d l ih=>simp only[List.cons_append,val,ih,List.length_cons,Nat.pow_succ];grind
theorem val_replicate (n:Nat):val (List.replicate n 0)=0:=by
 induction n with
 | zero=>rfl
 | succ n ih=>simp[List.replicate_succ,val,ih]
theorem val_lt {l:List Nat} (h:ok l):val l<B^l.length:=by
 induction l with
 | nil=>simp[val]
 | cons d l ih =>
  rw[ok_cons]at h
  have:=ih h.2
  simp only[val,List.length_cons,Nat.pow_succ]
  have h2:B*val l+B≤B*B^l.length:=by
   have:=Nat.mul_le_mul_left B this
   rw[Nat.mul_succ]at this;exact this
  have:=h.1
  rw[Nat.mul_comm (B^_)];omega
theorem val_snoc (l:List Nat) (d:Nat):val (l++[d])=val l+B^l.length*d:=by
 rw[val_append];simp[val]
theorem val_take_succ {l:List Nat} {k:Nat} (h:k<l.length):val (l.take (k+1))=val (l.take k)+B^k*l[k]:=by
 rw[List.take_succ_eq_append_getElem h,val_snoc,List.length_take,Nat.min_eq_left (Nat.le_of_lt h)]
theorem val_take_drop (l:List Nat) {k:Nat} (h:k≤l.length):val l=val (l.take k)+B^k*val (l.drop k):=by
 conv=>lhs;rw[← List.take_append_drop k l]
 rw[val_append,List.length_take,Nat.min_eq_left h]
theorem val_set {l:List Nat} {i:Nat} (h:i<l.length) (d:Nat):val (l.set i d)+B^i*l[i]=val l+B^i*d:=by
 induction l generalizing i with
 | nil=>simp at h
 | cons x l ih =>
  cases i with
  | zero=>simp[val];omega
  | succ i =>
   have:=ih (i:=i) (by simpa using h)
   simp only[List.set_cons_succ,val,List.getElem_cons_succ,Nat.pow_succ]
   grind
def trimmed (l:List Nat):Prop:=∀ d,l.getLast? = some d->d≠0
def trim : List Nat → List Nat
 | []=>[]
 | d :: l=>match trim l with
  | []=>if d=0 then []else [d]
  | r=>d :: r
theorem val_trim (l:List Nat):val (trim l)=val l:=by
 induction l with
 | nil=>rfl
 | cons d l ih =>
  unfold trim
  split
  ·rename_i h
   rw[h]at ih
   split
   ·rename_i h0;simp[val]at ih ⊢;rw[← ih,h0];rfl
   ·simp[val]at ih ⊢;rw[← ih];rfl
  ·simp only[val];rw[ih]
theorem trim_trimmed (l:List Nat):trimmed (trim l):=by
 induction l with
 | nil=>intro d h;simp[trim]at h
 | cons d l ih =>
  unfold trim
  split
  ·split
   ·intro d h;simp at h
   ·intro x h;simp at h;omega
  ·rename_i r h
   intro x hx
   rw[List.getLast?_cons]at hx
   cases hr:(trim l).getLast? with
   | none=>simp at hr;exact absurd hr h
   | some y=>rw[hr]at hx;simp at hx;subst hx;exact ih y hr
theorem ok_trim {l:List Nat} (h:ok l):ok (trim l):=by
 induction l with
 | nil=>exact h
 | cons d l ih =>
  rw[ok_cons]at h
  unfold trim
  split
  ·split
   ·exact ok_nil
   ·exact ok_cons.2 ⟨h.1,ok_nil⟩
  ·exact ok_cons.2 ⟨h.1,ih h.2⟩
theorem val_eq_zero {l:List Nat} (h:trimmed l):val l=0↔l=[]:=by
 refine⟨fun hv=>?_,fun h=>by rw[h];rfl⟩
 cases hl:l.getLast? with
 | none=>simpa using hl
 | some d =>
  exfalso
  obtain⟨m,rfl⟩:=List.getLast?_eq_some_iff.1 hl
  rw[val_snoc]at hv
  have hd:=h d hl
  have:0<B^m.length*d:=Nat.mul_pos (Nat.pow_pos B_pos) (by omega)
  omega
theorem trimmed_tail {d:Nat} {l:List Nat} (h:trimmed (d :: l)):trimmed l:=by
 intro x hx
 refine h x ?_
 rw[List.getLast?_cons,hx];rfl
theorem val_inj {a b:List Nat} (ha:ok a) (hb:ok b) (ta:trimmed a) (tb:trimmed b) (h:val a=val b):a=b:=by
 induction a generalizing b with
 | nil=>exact((val_eq_zero tb).1 h.symm).symm
 | cons d l ih =>
  cases b with
  | nil=>exact(val_eq_zero ta).1 h
  | cons e m =>
   rw[ok_cons]at ha hb
   simp only[val]at h
   have h1:d=e:=by
    have:=congrArg (·%B) h
    simp only[Nat.add_mul_mod_self_left]at this
    rwa [Nat.mod_eq_of_lt ha.1,Nat.mod_eq_of_lt hb.1]at this
   subst h1
   have h2:val l=val m:=Nat.eq_of_mul_eq_mul_left B_pos (by omega)
   rw[ih ha.2 hb.2 (trimmed_tail ta) (trimmed_tail tb) h2]
theorem trim_of_trimmed {l:List Nat} (ho:ok l) (h:trimmed l):trim l=l :=
 val_inj (ok_trim ho) ho (trim_trimmed l) h (val_trim l)
theorem pow_le_val {l:List Nat} (h:trimmed l) (hn:l≠[]):B^(l.length-1)≤val l:=by
 cases hl:l.getLast? with
 | none=>exact absurd (by simpa using hl) hn
 | some d =>
  obtain⟨m,rfl⟩:=List.getLast?_eq_some_iff.1 hl
  rw[val_snoc]
  have hd:=h d hl
  have h2:B^m.length*1≤B^m.length*d:=Nat.mul_le_mul_left _ (by omega)
  simp;omega
theorem val_lt_of_length {a b:List Nat} (ha:ok a) (tb:trimmed b) (h:a.length<b.length):val a<val b:=by
 have h1:=val_lt ha
 have h2:=pow_le_val tb (by intro e;subst e;simp at h)
 have h3:B^a.length≤B^(b.length-1):=Nat.pow_le_pow_right B_pos (by omega)
 omega
end Dg
namespace Go.Proofs.YtibaocbpeaejkaaGreat
def sgn (neg:Bool) (k:Nat):Int:=if neg then -(k:Int)else k
end Go.Proofs.YtibaocbpeaejkaaGreat
/- Plain facts on sums, differences, products and quotients of lists of digits, one step of a loop at a time. No condition. -/
namespace Dg
theorem take_set_succ {o:List Nat} {k:Nat} (h:k<o.length) (d:Nat):(o.set k d).take (k+1)=o.take k++[d]:=by
 rw[List.take_succ_eq_append_getElem (by simpa using h),List.take_set_of_le (Nat.le_refl k)]
 simp
theorem val_take_set_succ {o:List Nat} {k:Nat} (h:k<o.length) (d:Nat):val ((o.set k d).take (k+1))=val (o.take k)+B^k*d:=by
 rw[take_set_succ h,val_snoc,List.length_take,Nat.min_eq_left (Nat.le_of_lt h)]
theorem val_take_succ_getD (l:List Nat) (k:Nat):val (l.take (k+1))=val (l.take k)+B^k*(l[k]?.getD 0):=by
 by_cases h:k<l.length
 ·rw[val_take_succ h];simp[h]
 ·rw[List.take_of_length_le (by omega),List.take_of_length_le (by omega)];simp[h]
theorem take_all {l:List Nat} {k:Nat} (h:l.length≤k):l.take k=l:=List.take_of_length_le h

theorem plus_step {a b o : List Nat} {k c : Nat} (hk : k < o.length) (hI : val (o.take k) + B ^ k * c = val (a.take k) + val (b.take k)) :
  val ((o.set k ((a[k]?.getD 0+b[k]?.getD 0+c)%B)).take (k+1))+B^(k+1)*((a[k]?.getD 0+b[k]?.getD 0+c) / B)=val (a.take (k+1))+val (b.take (k+1)):=by
 rw[val_take_set_succ hk,val_take_succ_getD,val_take_succ_getD]
 generalize a[k]?.getD 0=x at *
 generalize b[k]?.getD 0=y at *
 have h:=Nat.div_add_mod (x+y+c) B
 rw[Nat.pow_succ]
 generalize (x+y+c) / B=q at *
 generalize (x+y+c)%B=r at *
 generalize B^k=P at *
 grind
theorem less_step {a b o : List Nat} {k c d c' : Nat} (hk : k < o.length) (hI : val (o.take k) + val (b.take k) = val (a.take k) + B ^ k * c)
  (h:d+b[k]?.getD 0+c=a[k]?.getD 0+B*c') :
  val ((o.set k d).take (k+1))+val (b.take (k+1))=val (a.take (k+1))+B^(k+1)*c':=by
 rw[val_take_set_succ hk,val_take_succ_getD,val_take_succ_getD,Nat.pow_succ]
 generalize a[k]?.getD 0=x at *
 generalize b[k]?.getD 0=y at *
 generalize B^k=P at *
 have:=congrArg (P*·) h
 grind

theorem times_step {o : List Nat} {V x y i j c : Nat} (hk : i + j < o.length) (b : List Nat) (hy : b[j]?.getD 0 = y)
  (hI:val o+B^(i+j)*c=V+B^i*(x*val (b.take j))) :
  val (o.set (i+j) ((x*y+o[i+j]?.getD 0+c)%B))+B^(i+(j+1))*((x*y+o[i+j]?.getD 0+c) / B)=V+B^i*(x*val (b.take (j+1))):=by
 have hs:=val_set hk ((x*y+o[i+j]?.getD 0+c)%B)
 rw[val_take_succ_getD,hy]
 have hg:o[i+j]?.getD 0=o[i+j]:=by simp[hk]
 rw[hg]at hs ⊢
 generalize o[i+j]=z at *
 have h:=Nat.div_add_mod (x*y+z+c) B
 generalize (x*y+z+c) / B=q at *
 generalize (x*y+z+c)%B=r at *
 generalize val (o.set (i+j) r)=W at *
 generalize val (b.take j)=Y at *
 have e:B^(i+(j+1))*q=B^(i+j)*(B*q):=by rw[← Nat.add_assoc,Nat.pow_succ,Nat.mul_assoc]
 have e3:B^i*(x*(Y+B^j*y))=B^i*(x*Y)+B^(i+j)*(x*y):=by
  rw[Nat.pow_add,Nat.mul_add,Nat.mul_add]
  congr 1
  ac_rfl
 have e4:B^(i+j)*(B*q)+B^(i+j)*r=B^(i+j)*(x*y)+B^(i+j)*z+B^(i+j)*c:=by
  rw[← Nat.mul_add,h,Nat.mul_add,Nat.mul_add]
 rw[e,e3]
 generalize B^(i+j)*(B*q)=t1 at *
 generalize B^(i+j)*r=t2 at *
 generalize B^(i+j)*(x*y)=t3 at *
 generalize B^(i+j)*z=t4 at *
 generalize B^(i+j)*c=t5 at *
 omega
theorem times_bound {x y z c:Nat} (hx:x<B) (hy:y<B) (hz:z<B) (hc:c<B):x*y+z+c<B*B:=by
 have h1:x*y≤(B-1)*(B-1):=Nat.mul_le_mul (by omega) (by omega)
 have h2:(B-1)*(B-1)+(B-1)+(B-1)<B*B:=by simp only[B_eq];omega
 omega
theorem div_lt_B {t:Nat} (h:t<B*B):t / B<B:=Nat.div_lt_of_lt_mul h

theorem short_step {x d r:Nat} (X Q:Nat) (h:X=Q*d+r):x+B*X=((r*B+x) / d+B*Q)*d+(r*B+x)%d:=by
 have h1:=Nat.div_add_mod (r*B+x) d
 have e:B*X=B*Q*d+r*B:=by rw[h,Nat.mul_add,Nat.mul_assoc,Nat.mul_comm B r]
 rw[Nat.add_mul,Nat.mul_comm _ d,e]
 generalize B*Q*d=t at *
 generalize d*((r*B+x) / d)=u at *
 generalize r*B=z at *
 omega
theorem short_lt {x d r:Nat} (hx:x<B) (hr:r<d):(r*B+x) / d<B:=by
 apply Nat.div_lt_of_lt_mul
 have:(r+1)*B≤d*B:=Nat.mul_le_mul_right B hr
 rw[Nat.add_mul]at this;omega
end Dg
/- Plain facts on the division of lists of digits: the guess at a digit of the quotient, its correction, the subtraction of a multiple. No condition. -/
namespace Dg
theorem mulsub_step {u v o : List Nat} {g k c c' b b' d : Nat} (hk : k < o.length)
  (hI:val (o.take k)+g*val (v.take k)=val (u.take k)+B^k*(c+b))
  (ht:g*v[k]?.getD 0+c=(g*v[k]?.getD 0+c)%B+B*c')
  (h:d+(g*v[k]?.getD 0+c)%B+b=u[k]?.getD 0+B*b') :
  val ((o.set k d).take (k+1))+g*val (v.take (k+1))=val (u.take (k+1))+B^(k+1)*(c'+b'):=by
 rw[val_take_set_succ hk,val_take_succ_getD,val_take_succ_getD]
 generalize (g*v[k]?.getD 0+c)%B=lo at *
 have e:g*(val (v.take k)+B^k*v[k]?.getD 0)=g*val (v.take k)+B^k*(g*v[k]?.getD 0):=by
  rw[Nat.mul_add];congr 1;ac_rfl
 have e2:B^(k+1)*(c'+b')=B^k*(B*c')+B^k*(B*b'):=by
  rw[Nat.pow_succ,Nat.mul_add,Nat.mul_assoc,Nat.mul_assoc]
 have h3:B^k*(g*v[k]?.getD 0)+B^k*c=B^k*lo+B^k*(B*c'):=by rw[← Nat.mul_add,ht,Nat.mul_add]
 have h4:B^k*d+B^k*lo+B^k*b=B^k*u[k]?.getD 0+B^k*(B*b'):=by rw[← Nat.mul_add,← Nat.mul_add,h,Nat.mul_add]
 rw[e,e2]
 rw[Nat.mul_add]at hI
 generalize B^k*(g*v[k]?.getD 0)=t1 at *
 generalize B^k*(B*c')=t2 at *
 generalize B^k*(B*b')=t3 at *
 generalize B^k*d=t4 at *
 generalize B^k*lo=t5 at *
 generalize B^k*u[k]?.getD 0=t6 at *
 generalize B^k*c=t7 at *
 generalize B^k*b=t8 at *
 omega

structure Ends (U V P top u0 v1 v2 u' v' : Nat) : Prop where
 hU:U=(top*B+u0)*P+u'
 hV:V=(v1*B+v2)*P+v'
 hu:u'<P
 hv:v'<P
 hu0:u0<B
 hv2:v2<B
 hv1:v1<B
 norm:B≤2*v1

theorem guess_down {U V P top u0 v1 v2 u' v' g rest:Nat} (e:Ends U V P top u0 v1 v2 u' v') (hg:g*v1+rest=top) (hc:rest*B+u0<g*v2):U<g*V:=by
 have h1:top*B+u0+1≤g*(v1*B+v2):=by
  have e1:g*(v1*B+v2)=g*v1*B+g*v2:=by rw[Nat.mul_add,Nat.mul_assoc]
  have e2:top*B=g*v1*B+rest*B:=by rw[← hg,Nat.add_mul]
  omega
 have h2:(top*B+u0+1)*P≤g*(v1*B+v2)*P:=Nat.mul_le_mul_right P h1
 have h3:g*V=g*(v1*B+v2)*P+g*v':=by rw[e.hV,Nat.mul_add,Nat.mul_assoc]
 have h4:=e.hU
 have h5:=e.hu
 rw[Nat.add_mul,Nat.one_mul]at h2
 omega

theorem guess_stop {U V P top u0 v1 v2 u' v' g rest : Nat} (e : Ends U V P top u0 v1 v2 u' v') (hg : g * v1 + rest = top) (hc : g * v2 ≤ rest * B + u0) (hgB : g < B) (hg1 : 0 < g) :
  (g-1)*V≤U:=by
 have h1:g*(v1*B+v2)≤top*B+u0:=by
  have e1:g*(v1*B+v2)=g*v1*B+g*v2:=by rw[Nat.mul_add,Nat.mul_assoc]
  have e2:top*B=g*v1*B+rest*B:=by rw[← hg,Nat.add_mul]
  omega
 have h2:g*(v1*B+v2)*P≤(top*B+u0)*P:=Nat.mul_le_mul_right P h1
 have hU:=e.hU
 have hV:V≤(v1*B+v2+1)*P:=by rw[e.hV,Nat.add_mul (_+_),Nat.one_mul];have:=e.hv;omega
 have h3:(g-1)*V≤(g-1)*((v1*B+v2+1)*P):=Nat.mul_le_mul_left _ hV
 have h4:(g-1)*(v1*B+v2+1)≤g*(v1*B+v2):=by
  obtain⟨k,rfl⟩:∃ k,g=k+1:=⟨g-1,by omega⟩
  rw[Nat.add_sub_cancel,Nat.add_mul,Nat.mul_add,Nat.mul_one,Nat.one_mul]
  have:B*1≤v1*B:=by
   rw[Nat.mul_comm v1]
   refine Nat.mul_le_mul_left B ?_
   have:=e.norm
   have hB:2≤B:=by decide
   omega
  omega
 have h5:=Nat.mul_le_mul_right P h4
 rw[Nat.mul_assoc]at h5
 omega

theorem guess_start {U V P top u0 v1 v2 u' v':Nat} (e:Ends U V P top u0 v1 v2 u' v') (hUV:U<V*B):U<(top / v1+1)*V/\top / v1≤B+1/\top / v1*v1+top%v1=top/\top%v1<v1:=by
 have hv1:0<v1:=by have:=e.norm;have:=B_pos;omega
 have hm:=Nat.div_add_mod top v1
 have hl:=Nat.mod_lt top hv1
 rw[Nat.mul_comm]at hm
 refine⟨?_,?_,hm,hl⟩
 ·have h1:top<(top / v1+1)*v1:=by rw[Nat.add_mul,Nat.one_mul];omega
  have h2:(top+1)*B≤(top / v1+1)*v1*B:=Nat.mul_le_mul_right B h1
  have h3:(top*B+u0+1)*P≤(top / v1+1)*v1*B*P:=Nat.mul_le_mul_right P (by rw[Nat.add_mul,Nat.one_mul]at h2;have:=e.hu0;omega)
  have h4:(top / v1+1)*v1*B*P≤(top / v1+1)*V:=by
   rw[Nat.mul_assoc,Nat.mul_assoc]
   refine Nat.mul_le_mul_left _ ?_
   rw[e.hV,← Nat.mul_assoc,Nat.add_mul (v1*B)]
   omega
  have hU:=e.hU
  have:=e.hu
  rw[Nat.add_mul (_+_),Nat.one_mul]at h3
  omega
 ·apply Nat.le_of_lt_succ
  apply Nat.div_lt_of_lt_mul
  -- top * B * P <= U < V * B <= (v1 * B + v2 + 1) * P * B
  have h1:top*B*P≤U:=by rw[e.hU,Nat.add_mul (top*B)];omega
  have hV:V<(v1*B+v2+1)*P:=by rw[e.hV,Nat.add_mul (_+_),Nat.one_mul];have:=e.hv;omega
  have h2:V*B≤(v1*B+v2+1)*P*B:=Nat.mul_le_mul_right B (Nat.le_of_lt hV)
  have h3:top*(B*P)<(v1*B+v2+1)*(B*P):=by
   have e1:top*(B*P)=top*B*P:=by rw[Nat.mul_assoc]
   have e2:(v1*B+v2+1)*(B*P)=(v1*B+v2+1)*P*B:=by ac_rfl
   omega
  have h4:top<v1*B+v2+1:=Nat.lt_of_mul_lt_mul_right h3
  have:=e.hv2
  have:=e.norm
  have e5:v1*(B+1+1)=v1*B+2*v1:=by rw[Nat.mul_add,Nat.mul_add];omega
  show top<v1*(B+1+1)
  omega

theorem guess_right {U V W g M:Nat} (h:W+g*V=U) (hU:U<(g+1)*V):U / V=g/\U%V=W:=by
 have hV:W<V:=by rw[Nat.add_mul,Nat.one_mul]at hU;omega
 have:=M
 subst h
 rw[Nat.add_mul_div_right _ _ (by omega),Nat.div_eq_of_lt hV,Nat.add_mul_mod_self_right,Nat.mod_eq_of_lt hV]
 simp
end Dg
/- Plain facts on lists of digits that are moved by binary places, and on their order. No condition. -/
namespace Dg
theorem pow_dvd_B {s:Nat} (hs:s≤32):∃ m,B=2^s*m:=by
 refine⟨2^(32-s),?_⟩
 rw[← Nat.pow_add,show s+(32-s)=32 from by omega];rfl
theorem low_dvd {s x:Nat} (hs:s≤32):x*2^s%B=2^s*(x*2^s%B / 2^s):=by
 obtain⟨m,hm⟩:=pow_dvd_B hs
 rw[Nat.mul_div_cancel']
 rw[hm,Nat.mul_comm x,Nat.mul_mod_mul_left]
 exact Nat.dvd_mul_right _ _
theorem or_low {s x h:Nat} (hs:s≤32) (hh:h<2^s):h ||| (x*2^s%B)=h+x*2^s%B:=by
 rw[low_dvd hs,Nat.or_comm,Nat.add_comm,Nat.two_pow_add_eq_or_of_lt hh]
theorem or_high {x h:Nat} (hh:x<B):x ||| (h*B)=x+h*B:=by
 have:=Nat.two_pow_add_eq_or_of_lt (i:=32) (b:=x) hh h
 rw[show(2^32:Nat)=B from rfl]at this
 rw[Nat.or_comm,Nat.add_comm,Nat.mul_comm,this]
theorem high_lt {s x:Nat} (hx:x<B):x*2^s / B<2^s:=by
 apply Nat.div_lt_of_lt_mul
 exact Nat.mul_lt_mul_of_pos_right hx (Nat.pow_pos (by omega))
theorem pow_le_half {s:Nat} (hs:s≤31):2^s≤2147483648:=by
 have:=Nat.pow_le_pow_right (n:=2) (by omega) hs;exact this

theorem shifted_step {a o : List Nat} {i s : Nat} (hs : s ≤ 31) (hi : i + 1 < o.length) (hx : a[i]?.getD 0 < B)
  (hI:val (o.take (i+1))=val (a.take i)*2^s) (ho:o[i]?.getD 0<2^s) :
  val (((o.set i (o[i]?.getD 0 ||| (a[i]?.getD 0*2^s%B))).set (i+1) (a[i]?.getD 0*2^s / B)).take (i+1+1))=val (a.take (i+1))*2^s /\
  a[i]?.getD 0*2^s / B<2^s/\(o[i]?.getD 0 ||| (a[i]?.getD 0*2^s%B))<B:=by
 rw[val_take_set_succ (by simpa using hi),val_take_set_succ (by omega),val_take_succ_getD,or_low (by omega) ho]
 rw[val_take_succ_getD]at hI
 generalize a[i]?.getD 0=x at *
 generalize o[i]?.getD 0=z at *
 have hdm:=Nat.div_add_mod (x*2^s) B
 have hlow:=low_dvd (s:=s) (x:=x) (by omega)
 obtain⟨m,hm⟩:=pow_dvd_B (s:=s) (by omega)
 have hml:x*2^s%B<B:=Nat.mod_lt _ B_pos
 refine⟨?_,high_lt hx,?_⟩
 ·have e:B^(i+1)*(x*2^s / B)=B^i*(B*(x*2^s / B)):=by rw[Nat.pow_succ,Nat.mul_assoc]
  have e2:(val (a.take i)+B^i*x)*2^s=val (a.take i)*2^s+B^i*(x*2^s):=by rw[Nat.add_mul,Nat.mul_assoc]
  have e3:B^i*(x*2^s)=B^i*(B*(x*2^s / B))+B^i*(x*2^s%B):=by rw[← Nat.mul_add,hdm]
  rw[e,e2,e3,Nat.mul_add (B^i) z]
  generalize B^i*(B*(x*2^s / B))=t1 at *
  generalize B^i*(x*2^s%B)=t2 at *
  omega
 ·generalize x*2^s%B=lo at *
  have h1:lo / 2^s<m:=by
   apply Nat.div_lt_of_lt_mul;rw[← hm];exact hml
  have h2:2^s*(lo / 2^s+1)≤2^s*m:=Nat.mul_le_mul_left _ h1
  rw[Nat.mul_add,← hlow,← hm,Nat.mul_one]at h2
  generalize 2^s=P at *
  omega

def unsh (s : Nat) : List Nat → List Nat
 | []=>[]
 | x :: l=>(x+(l[0]?.getD 0)*B) / 2^s%B :: unsh s l
theorem unsh_length (s:Nat) (l:List Nat):(unsh s l).length=l.length:=by
 induction l with
 | nil=>rfl
 | cons x l ih=>simp[unsh,ih]
theorem unsh_get (s:Nat) (l:List Nat) (i:Nat) (h:i<l.length):(unsh s l)[i]? = some ((l[i]+(l[i+1]?.getD 0)*B) / 2^s%B):=by
 induction l generalizing i with
 | nil=>simp at h
 | cons x l ih =>
  cases i with
  | zero=>simp only[unsh,List.getElem?_cons_zero,List.getElem_cons_zero,List.getElem?_cons_succ,Nat.zero_add]
  | succ i=>simp only[unsh,List.getElem?_cons_succ,List.getElem_cons_succ];exact ih i (by simpa using h)
theorem val_unsh {s:Nat} (hs:s≤31) {l:List Nat} (h:ok l):val (unsh s l)=val l / 2^s:=by
 obtain⟨m,hm⟩:=pow_dvd_B (s:=s) (by omega)
 have hP:0<2^s:=Nat.pow_pos (by omega)
 induction l with
 | nil=>simp[unsh,val]
 | cons x l ih =>
  rw[ok_cons]at h
  simp only[unsh,val,ih h.2]
  -- val l = hd + B * r
  obtain⟨hd,r,hv,hhd,hlt⟩:∃ hd r,val l=hd+B*r/\l[0]?.getD 0=hd/\hd<B:=by
   cases l with
   | nil=>exact⟨0,0,by simp[val],rfl,B_pos⟩
   | cons y k=>exact⟨y,val k,rfl,rfl,(ok_cons.1 h.2).1⟩
  rw[hhd,hv]
  have h1:=h.1
  generalize hPe:2^s=P at *
  -- hd = P * a + b
  have hdm:=Nat.div_add_mod hd P
  have hb:=Nat.mod_lt hd hP
  generalize hd / P=a at *
  generalize hd%P=b at *
  subst hdm
  have e1:x+(P*a+b)*B=(x+b*B)+P*(a*B):=by rw[Nat.add_mul,Nat.mul_assoc];omega
  have e2:P*a+b+B*r=b+P*(a+m*r):=by rw[Nat.mul_add,← Nat.mul_assoc,← hm];omega
  have e3:x+B*(b+P*(a+m*r))=(x+b*B)+P*(B*(a+m*r)):=by
   rw[Nat.mul_add B b,Nat.mul_left_comm B P,Nat.mul_comm b B,Nat.add_assoc]
  rw[e1,e2,e3,Nat.add_mul_div_left _ _ hP,Nat.add_mul_div_left _ _ hP,Nat.add_mul_div_left _ _ hP,Nat.div_eq_of_lt hb,Nat.add_mul_mod_self_right]
  clear e1 e2 e3
  have h4:(x+b*B) / P<B:=by
   apply Nat.div_lt_of_lt_mul
   have:(b+1)*B≤P*B:=Nat.mul_le_mul_right B hb
   rw[Nat.add_mul]at this
   omega
  rw[Nat.mod_eq_of_lt h4,Nat.zero_add]

theorem lt_of_top {a b:List Nat} {i:Nat} (ha:ok a) (hab:a.length=b.length) (hi:i<a.length) (hd:a.drop (i+1)=b.drop (i+1)) (h:a[i]<b[i]'(by omega)):val a<val b:=by
 rw[val_take_drop a (k:=i+1) (by omega),val_take_drop b (k:=i+1) (by omega),hd,val_take_succ hi,val_take_succ (by omega)]
 have h1:=val_lt (ok_take ha i)
 rw[List.length_take,Nat.min_eq_left (by omega)]at h1
 have h2:B^i*(a[i]+1)≤B^i*(b[i]'(by omega)):=Nat.mul_le_mul_left _ h
 rw[Nat.mul_add]at h2
 omega
end Dg
/- Plain facts on one digit of a quotient, in the form in which the walk of digit wants them. No condition. -/
namespace Dg
theorem getD_eq {l:List Nat} {i:Nat} (h:i<l.length):l[i]?.getD 0=l[i]:=by rw[List.getElem?_eq_getElem h];rfl
theorem take_getD (l:List Nat) (k:Nat):val (l.take (k+1))=val (l.take k)+B^k*l[k]?.getD 0:=val_take_succ_getD l k
theorem ends_of {O v : List Nat} {m : Nat} (hv : v.length = m + 2) (oO : ok O) (ov : ok v) (norm : B ≤ 2 * v[m + 1]?.getD 0) :
  Ends (val (O.take (m+3))) (val v) (B^m) (O[m+2]?.getD 0*B+O[m+1]?.getD 0) (O[m]?.getD 0) (v[m+1]?.getD 0) (v[m]?.getD 0) (val (O.take m)) (val (v.take m)):=by
 refine⟨?_,?_,?_,?_,ok_getD oO m,ok_getD ov m,ok_getD ov (m+1),norm⟩
 ·rw[take_getD,take_getD,take_getD,Nat.pow_succ B (m+1),Nat.pow_succ B m]
  generalize B^m=P
  rw[Nat.add_mul (_*_),Nat.add_mul (_*_),Nat.add_mul (_*_)]
  have e1:P*B*B*O[m+2]?.getD 0=O[m+2]?.getD 0*B*B*P:=by ac_rfl
  have e2:P*B*O[m+1]?.getD 0=O[m+1]?.getD 0*B*P:=by ac_rfl
  have e3:P*O[m]?.getD 0=O[m]?.getD 0*P:=by ac_rfl
  rw[e1,e2,e3];omega
 ·have h:val v=val (v.take (m+1+1)):=by rw[List.take_of_length_le (by omega)]
  rw[h,take_getD,take_getD,Nat.pow_succ]
  generalize B^m=P
  rw[Nat.add_mul]
  have e2:P*B*v[m+1]?.getD 0=v[m+1]?.getD 0*B*P:=by ac_rfl
  have e3:P*v[m]?.getD 0=v[m]?.getD 0*P:=by ac_rfl
  rw[e2,e3];omega
 ·have:=val_lt (ok_take oO m)
  rw[List.length_take]at this
  exact Nat.lt_of_lt_of_le this (Nat.pow_le_pow_right B_pos (by omega))
 ·have:=val_lt (ok_take ov m)
  rw[List.length_take]at this
  exact Nat.lt_of_lt_of_le this (Nat.pow_le_pow_right B_pos (by omega))
def Guess (U V top v1 v2 g r:Nat):Prop:=g*v1+r=top/\U<(g+1)*V/\g≤B+1/\r<B/\top≤v1*B+v2
theorem guess_init {U V P top u0 v1 v2 u' v':Nat} (e:Ends U V P top u0 v1 v2 u' v') (h:U<V*B):Guess U V top v1 v2 (top / v1) (top%v1):=by
 obtain⟨h1,h2,h3,h4⟩:=guess_start e h
 refine⟨h3,h1,h2,Nat.lt_trans h4 e.hv1,?_⟩
 have hh1:top*B*P≤U:=by rw[e.hU,Nat.add_mul (top*B)];omega
 have hV:V<(v1*B+v2+1)*P:=by rw[e.hV,Nat.add_mul (_+_),Nat.one_mul];have:=e.hv;omega
 have hh2:V*B≤(v1*B+v2+1)*P*B:=Nat.mul_le_mul_right B (Nat.le_of_lt hV)
 have hh3:top*(B*P)<(v1*B+v2+1)*(B*P):=by
  have e1:top*(B*P)=top*B*P:=by rw[Nat.mul_assoc]
  have e2:(v1*B+v2+1)*(B*P)=(v1*B+v2+1)*P*B:=by ac_rfl
  omega
 have:=Nat.lt_of_mul_lt_mul_right hh3
 omega
theorem guess_round {U V P top u0 v1 v2 u' v' g r : Nat} (e : Ends U V P top u0 v1 v2 u' v') (h : U < V * B) (hg : Guess U V top v1 v2 g r) (hc : B ≤ g ∨ r * B + u0 < g * v2) :
  1≤g/\(g-1)*v1+(r+v1)=top/\U<(g-1+1)*V/\(B≤r+v1->g-1<B):=by
 obtain⟨h1,h2,h3,h4,h5⟩:=hg
 have hB:=B_pos
 have hg1:1≤g:=by
  rcases hc with hc | hc
  ·omega
  ·rcases Nat.eq_zero_or_pos g with h0 | h0
   ·subst h0;omega
   ·exact h0
 obtain⟨k,rfl⟩:∃ k,g=k+1:=⟨g-1,by omega⟩
 rw[Nat.add_sub_cancel]
 rw[Nat.add_mul,Nat.one_mul]at h1
 refine⟨hg1,by omega,?_,?_⟩
 ·rcases hc with hc | hc
  ·have:=Nat.mul_le_mul_left V hc
   rw[Nat.mul_comm V (k+1)]at this
   omega
  ·exact guess_down e (by rw[Nat.add_mul,Nat.one_mul];exact h1) hc
 ·intro hr
  rcases Nat.lt_or_ge k B with hk | hk
  ·exact hk
  ·exfalso
   have hk2:k=B:=by omega
   subst hk2
   rw[Nat.mul_comm]at h1
   have:=e.hv2
   omega
def Guessed (U V g:Nat):Prop:=g<B/\U<(g+1)*V/\(0<g->(g-1)*V≤U)
theorem guess_exit {U V P top u0 v1 v2 u' v' g r:Nat} (e:Ends U V P top u0 v1 v2 u' v') (hg:Guess U V top v1 v2 g r) (hgB:g<B) (hc:g*v2≤r*B+u0):Guessed U V g :=
 ⟨hgB,hg.2.1,fun h0=>guess_stop e hg.1 hc hgB h0⟩
theorem guess_break {U V P top u0 v1 v2 u' v' g r:Nat} (e:Ends U V P top u0 v1 v2 u' v') (h1:g*v1+r=top) (h2:U<(g+1)*V) (hgB:g<B) (hr:B≤r):Guessed U V g:=by
 refine⟨hgB,h2,fun h0=>guess_stop e h1 ?_ hgB h0⟩
 have h3:g*v2≤B*B:=Nat.mul_le_mul (by omega) (Nat.le_of_lt e.hv2)
 have h4:B*B≤r*B:=Nat.mul_le_mul_right B hr
 omega
theorem sub_right {U V g W M b:Nat} (hg:Guessed U V g) (h:W+g*V=U+M*b) (hb:b=0):U / V=g/\U%V=W:=by
 subst hb
 exact guess_right (M:=0) (by omega) hg.2.1
theorem sub_great {U V g W M b:Nat} (hg:Guessed U V g) (h:W+g*V=U+M*b) (hW:W<M) (hb:b=1):0<g/\U / V=g-1/\U%V+M=W+V:=by
 subst hb
 have hgp:0<g:=by
  rcases Nat.eq_zero_or_pos g with h0 | h0
  ·subst h0;omega
  ·exact h0
 have h2:=hg.2.2 hgp
 obtain⟨k,rfl⟩:∃ k,g=k+1:=⟨g-1,by omega⟩
 rw[Nat.add_sub_cancel]at h2 ⊢
 rw[Nat.add_mul,Nat.one_mul,Nat.mul_one]at h
 have hU:U<(k+1)*V:=by rw[Nat.add_mul,Nat.one_mul];omega
 have h3:=guess_right (W:=U-k*V) (M:=0) (by omega) hU
 refine⟨hgp,h3.1,?_⟩
 rw[h3.2];omega
end Dg
/- Plain facts on the division of digits by digits, in the form in which the walk of divide wants them. No condition. -/
namespace Dg
theorem length_le_of_val {l:List Nat} {M:Nat} (h:trimmed l) (hv:val l<B^M):l.length≤M:=by
 rcases Nat.lt_or_ge M l.length with h1 | h1
 ·exfalso
  have h2:=pow_le_val h (by intro e;subst e;simp at h1)
  have h3:B^M≤B^(l.length-1):=Nat.pow_le_pow_right B_pos (by omega)
  omega
 ·exact h1
theorem val_drop_eq_zero {l:List Nat} {M:Nat} (hv:val l<B^M):val (l.drop M)=0:=by
 by_cases h:M≤l.length
 ·have:=val_take_drop l h
  rcases Nat.eq_zero_or_pos (val (l.drop M))with h0 | h0
  ·exact h0
  ·have h2:B^M*1≤B^M*val (l.drop M):=Nat.mul_le_mul_left _ h0
   omega
 ·rw[List.drop_of_length_le (by omega)];rfl
theorem val_take_of_lt {l:List Nat} {M:Nat} (hv:val l<B^M):val (l.take M)=val l:=by
 by_cases h:M≤l.length
 ·have:=val_take_drop l h
  rw[val_drop_eq_zero hv]at this;omega
 ·rw[List.take_of_length_le (by omega)]
theorem moved {b vs : List Nat} {m s : Nat} (hb : b.length = m + 2) (ob : ok b) (hs1 : B ≤ 2 * (b[m + 1]?.getD 0 * 2 ^ s)) (hs2 : b[m + 1]?.getD 0 * 2 ^ s < B) (ov : ok vs) (hv : val vs = val b * 2 ^ s) :
  (trim vs).length=m+2/\B≤2*(trim vs)[m+1]?.getD 0/\val vs<B^(m+2)/\B^(m+1)*2^s≤val vs:=by
 have hp:0<2^s:=Nat.pow_pos (by omega)
 have e:val b=val (b.take (m+1))+B^(m+1)*b[m+1]?.getD 0:=by
  rw[← val_take_succ_getD,List.take_of_length_le (by omega)]
 have hlo:=val_lt (ok_take ob (m+1))
 rw[List.length_take,Nat.min_eq_left (by omega)]at hlo
 generalize b[m+1]?.getD 0=t at *
 -- the leading digit is at least 1
 have ht:0<t:=by
  rcases Nat.eq_zero_or_pos t with h | h
  ·subst h;have:=B_pos;omega
  ·exact h
 have hlow:B^(m+1)*(t*2^s)≤val vs:=by
  rw[hv,e,Nat.add_mul,Nat.mul_assoc];omega
 have hlt:val vs<B^(m+2):=by
  have h1:val b<B^(m+1)*(t+1):=by rw[Nat.mul_add];omega
  have h2:val vs<B^(m+1)*(t+1)*2^s:=by rw[hv];exact Nat.mul_lt_mul_of_pos_right h1 hp
  have h3:(t+1)*2^s≤B:=by
   -- 2 ^ s divides B and t * 2 ^ s < B
   rcases Nat.lt_or_ge B ((t+1)*2^s)with h | h
   ·exfalso
    have hs:s≤32:=by
     rcases Nat.lt_or_ge 32 s with h6 | h6
     ·exfalso
      have:2^32≤2^s:=Nat.pow_le_pow_right (by omega) (by omega)
      have h7:1*2^s≤t*2^s:=Nat.mul_le_mul_right _ ht
      have h8:(2:Nat)^32=B:=rfl
      omega
     ·exact h6
    obtain⟨q,hq⟩:=pow_dvd_B hs
    rw[hq,Nat.mul_comm (2^s)]at h hs2
    have h9:=Nat.lt_of_mul_lt_mul_right h
    have h10:=Nat.lt_of_mul_lt_mul_right hs2
    omega
   ·exact h
  have h4:B^(m+1)*(t+1)*2^s≤B^(m+1)*B:=by rw[Nat.mul_assoc];exact Nat.mul_le_mul_left _ h3
  rw[Nat.pow_succ B (m+1)]
  omega
 have h1:(trim vs).length≤m+2:=length_le_of_val (trim_trimmed vs) (by rw[val_trim];exact hlt)
 have hlow2:B^(m+1)*2^s≤val vs:=by
  refine Nat.le_trans (Nat.mul_le_mul_left _ ?_) hlow
  have:1*2^s≤t*2^s:=Nat.mul_le_mul_right _ ht
  omega
 have h2:m+1<(trim vs).length:=by
  rcases Nat.lt_or_ge (m+1) (trim vs).length with h | h
  ·exact h
  ·exfalso
   have h3:=val_lt (ok_trim ov)
   rw[val_trim]at h3
   have h4:B^(trim vs).length≤B^(m+1):=Nat.pow_le_pow_right B_pos h
   have h5:B^(m+1)*1≤B^(m+1)*2^s:=Nat.mul_le_mul_left _ hp
   omega
 refine⟨by omega,?_,hlt,hlow2⟩
 have e2:val (trim vs)=val ((trim vs).take (m+1))+B^(m+1)*(trim vs)[m+1]?.getD 0:=by
  rw[← val_take_succ_getD,List.take_of_length_le (by omega)]
 have hlo2:=val_lt (ok_take (ok_trim ov) (m+1))
 rw[List.length_take,Nat.min_eq_left (by omega)]at hlo2
 rw[val_trim]at e2
 generalize (trim vs)[m+1]?.getD 0=r at *
 -- B ^ (m+1) * (t * 2^s) ≤ val vs < B ^ (m+1) * (r + 1)
 have h6:B^(m+1)*(t*2^s)<B^(m+1)*(r+1):=by rw[Nat.mul_add];omega
 have h7:=Nat.lt_of_mul_lt_mul_left h6
 omega
def Made (X V k:Nat) (qs us:List Nat):Prop:=X=val (qs.drop k)*B^k*V+val us/\val (us.drop k)<V
theorem made_start {a us qs : List Nat} {n m s V : Nat} (ha : a.length = n) (oa : ok a) (hn : m + 2 ≤ n) (hus : us.length = n + 1) (hv : val us = val a * 2 ^ s) (hV : B ^ (m + 1) * 2 ^ s ≤ V) (hq : qs.length = n + 1 - (m + 2)) :
  Made (val a*2^s) V (n+1-(m+2)) qs us:=by
 refine⟨by rw[List.drop_of_length_le (by omega),← hv];simp[val],?_⟩
 have h1:=val_lt oa
 rw[ha]at h1
 have h2:=val_take_drop us (k:=n+1-(m+2)) (by omega)
 rw[hv]at h2
 have hp:0<2^s:=Nat.pow_pos (by omega)
 have h3:val a*2^s<B^n*2^s:=Nat.mul_lt_mul_of_pos_right h1 hp
 have e:B^n=B^(n+1-(m+2))*B^(m+1):=by rw[← Nat.pow_add];congr 1;omega
 rw[e,Nat.mul_assoc]at h3
 have h4:B^(n+1-(m+2))*val (us.drop (n+1-(m+2)))<B^(n+1-(m+2))*(B^(m+1)*2^s):=by omega
 have:=Nat.lt_of_mul_lt_mul_left h4
 omega
theorem made_pre {X V k m : Nat} {qs us : List Nat} (hk : k < us.length) (ou : ok us) (hM : Made X V (k + 1) qs us) (hV : V < B ^ (m + 2)) :
  val ((us.drop k).take (m+3))<V*B/\val ((us.drop k).take (m+3))=val (us.drop k):=by
 have e:val (us.drop k)=us[k]+B*val (us.drop (k+1)):=by rw[List.drop_eq_getElem_cons hk];rfl
 have h1:=ok_get ou hk
 have h2:=hM.2
 have h3:B*(val (us.drop (k+1))+1)≤B*V:=Nat.mul_le_mul_left _ h2
 rw[Nat.mul_add,Nat.mul_comm B V]at h3
 have h4:val (us.drop k)<V*B:=by omega
 have h5:V*B<B^(m+3):=by rw[Nat.pow_succ];exact Nat.mul_lt_mul_of_pos_right hV B_pos
 have h6:=val_take_of_lt (l:=us.drop k) (M:=m+3) (by omega)
 exact⟨by omega,h6⟩
theorem above {us us' : List Nat} {k M : Nat} (hlen : us'.length = us.length) (hd : us'.drop (k + M) = us.drop (k + M)) (hp : val ((us.drop k).take M) = val (us.drop k)) :
  val (us'.drop k)=val ((us'.drop k).take M):=by
 by_cases hl:M≤(us.drop k).length
 ·have h1:=val_take_drop (us.drop k) (k:=M) hl
  have h2:=val_take_drop (us'.drop k) (k:=M) (by rw[List.length_drop]at hl ⊢;omega)
  rw[hp,List.drop_drop]at h1
  rw[List.drop_drop,hd]at h2
  have h0:0<B^M:=Nat.pow_pos B_pos
  rcases Nat.eq_zero_or_pos (val (us.drop (k+M)))with h | h
  ·rw[h]at h2;exact h2
  ·have:=Nat.mul_pos h0 h;omega
 ·rw[List.take_of_length_le (by rw[List.length_drop]at hl ⊢;omega)]
theorem made_step {X V k m q : Nat} {qs us us' : List Nat} (hk : k < us.length) (hkq : k < qs.length) (hlen : us'.length = us.length) (hM : Made X V (k + 1) qs us) (hVp : 0 < V)
  (ht:us'.take k=us.take k) (hd:us'.drop (k+(m+3))=us.drop (k+(m+3))) (hp:val ((us.drop k).take (m+3))=val (us.drop k))
  (hq:q=val ((us.drop k).take (m+3)) / V) (hr:val ((us'.drop k).take (m+3))=val ((us.drop k).take (m+3))%V) :
  Made X V k (qs.set k q) us':=by
 have hval':=above hlen hd hp
 have hU:=val_take_drop us (k:=k) (by omega)
 have hU':=val_take_drop us' (k:=k) (by omega)
 have hmod:=Nat.div_add_mod (val (us.drop k)) V
 rw[hp]at hq hr
 rw[hr]at hval'
 have hlt:=Nat.mod_lt (val (us.drop k)) hVp
 refine⟨?_,by rw[hval'];exact hlt⟩
 have hkq':k<(qs.set k q).length:=by rw[List.length_set];exact hkq
 have e1:val ((qs.set k q).drop k)=q+B*val (qs.drop (k+1)):=by
  rw[List.drop_eq_getElem_cons hkq',List.drop_set_of_lt (by omega)];simp[val]
 have g1:=hM.1
 rw[hU,Nat.pow_succ]at g1
 have g2:val us'=val (us.take k)+B^k*(val (us.drop k)%V):=by rw[hU',ht,hval']
 rw[g1,e1,g2,hq]
 clear g1 g2 e1 hU hU' hval' hd ht hp hr hM hq hkq' hlt
 generalize val (us.drop k)=U at *
 generalize val (qs.drop (k+1))=Q at *
 generalize val (us.take k)=T at *
 generalize U%V=r at *
 generalize U / V=q at *
 generalize B^k=P at *
 subst hmod
 rw[Nat.mul_add P,Nat.add_mul,Nat.add_mul]
 have e2:Q*(P*B)*V=B*Q*P*V:=by ac_rfl
 have e3:P*(V*q)=q*P*V:=by ac_rfl
 rw[e2,e3]
 generalize B*Q*P*V=t1
 generalize q*P*V=t2
 generalize P*r=t3
 omega
theorem made_end {x V y s:Nat} {qs us:List Nat} (hV:V=y*2^s) (hM:Made (x*2^s) V 0 qs us):val qs=x / y/\val us / 2^s=x%y:=by
 obtain⟨h1,h2⟩:=hM
 simp only[List.drop_zero,Nat.pow_zero,Nat.mul_one]at h1 h2
 have hp:0<2^s:=Nat.pow_pos (by omega)
 subst hV
 -- the rest is a multiple of 2 ^ s
 have hy:0<y:=by
  rcases Nat.eq_zero_or_pos y with h | h
  ·subst h;omega
  ·exact h
 have e:val us=(x-val qs*y)*2^s:=by
  rw[Nat.sub_mul,Nat.mul_assoc];omega
 have hle:val qs*y≤x:=by
  have:val qs*y*2^s≤x*2^s:=by rw[Nat.mul_assoc];omega
  exact Nat.le_of_mul_le_mul_right this hp
 have hlt:x-val qs*y<y:=by
  rw[e]at h2
  exact Nat.lt_of_mul_lt_mul_right h2
 have h3:=guess_right (U:=x) (V:=y) (W:=x-val qs*y) (g:=val qs) (M:=0) (by omega) (by rw[Nat.add_mul,Nat.one_mul];omega)
 refine⟨h3.1.symm,?_⟩
 rw[e,Nat.mul_div_cancel _ hp,h3.2]
end Dg
/- The digits of a number; an integer as the fields of its struct. -/
namespace Go.Proofs.YtibaocbpeaejkaaGreat
open Go.RowKit
def digsF : Nat → Nat → List Nat
 | 0,_=>[]
 | k+1,n=>if n=0 then []else n%Dg.B :: digsF k (n / Dg.B)
def digs (n:Nat):List Nat:=digsF n n
theorem digsF_spec : ∀ (k n : Nat), n ≤ k → Dg.val (digsF k n) = n ∧ Dg.ok (digsF k n) ∧ Dg.trimmed (digsF k n)
 | 0,n,h=>by
  have:n=0:=by omega
  subst this
  exact⟨rfl,Dg.ok_nil,fun d h=>by simp[digsF]at h⟩
 | k+1,n,h=>by
  simp only[digsF]
  split
  ·rename_i h0;subst h0;exact⟨rfl,Dg.ok_nil,fun d h=>by simp at h⟩
  ·rename_i h0
   have hB:1<Dg.B:=by decide
   have hlt:n / Dg.B<n:=Nat.div_lt_self (by omega) hB
   obtain⟨h1,h2,h3⟩:=digsF_spec k (n / Dg.B) (by omega)
   refine⟨?_,Dg.ok_cons.2 ⟨Nat.mod_lt _ Dg.B_pos,h2⟩,?_⟩
   ·simp only[Dg.val];rw[h1];exact Nat.mod_add_div n Dg.B
   ·intro d hd
    cases hl:digsF k (n / Dg.B)with
    | nil =>
     rw[hl]at hd h1
     simp at hd
     simp only[Dg.val]at h1
     have:=Nat.mod_add_div n Dg.B
     rw[← h1]at this
     omega
    | cons x l =>
     rw[hl]at hd h3
     rw[List.getLast?_cons_cons]at hd
     exact h3 d hd
theorem digs_val (n:Nat):Dg.val (digs n)=n:=(digsF_spec n n (Nat.le_refl _)).1
theorem digs_ok (n:Nat):Dg.ok (digs n):=(digsF_spec n n (Nat.le_refl _)).2.1
theorem digs_trimmed (n:Nat):Dg.trimmed (digs n):=(digsF_spec n n (Nat.le_refl _)).2.2
theorem digs_unique {l:List Nat} {n:Nat} (ho:Dg.ok l) (ht:Dg.trimmed l) (hv:Dg.val l=n):l=digs n :=
 Dg.val_inj ho (digs_ok n) ht (digs_trimmed n) (by rw[hv,digs_val])
def zlen (x:Int):Nat:=(digs x.natAbs).length
theorem zlen_le {x:Int} {L:Nat} (h:x.natAbs<Dg.B^L):zlen x≤L:=Dg.length_le_of_val (digs_trimmed _) (by rw[digs_val];exact h)
theorem zlen_lt (x:Int):x.natAbs<Dg.B^zlen x:=by
 have:=Dg.val_lt (digs_ok x.natAbs)
 rwa [digs_val]at this
theorem zlen_mul (x y:Int):zlen (x*y)≤zlen x+zlen y:=by
 refine zlen_le ?_
 rw[Int.natAbs_mul,Nat.pow_add]
 exact Nat.mul_lt_mul'' (zlen_lt x) (zlen_lt y)
theorem zlen_neg (x:Int):zlen (-x)=zlen x:=by unfold zlen;rw[Int.natAbs_neg]
def dsC (l:List Nat):Cell := .row 1 l.length fun i _ => .int .u32 (l.getD i 0:Nat)
structure RawZ where
 neg:Bool
 ds:List Nat
def RawZ.val (a:RawZ):Int:=sgn a.neg (Dg.val a.ds)
def zr (a:RawZ):List Cell:=[.bool a.neg,dsC a.ds]
def ofZ (x:Int):RawZ:=⟨decide (x<0),digs x.natAbs⟩
abbrev nz (x:Int):List Cell:=zr (ofZ x)
theorem ofZ_val (x:Int):(ofZ x).val=x:=by
 unfold RawZ.val ofZ sgn
 simp only[digs_val]
 by_cases h:x<0
 ·simp[h];omega
 ·simp[h];omega
theorem ofZ_ok (x:Int):Dg.ok (ofZ x).ds:=digs_ok _
theorem ofZ_len (x:Int):(ofZ x).ds.length=zlen x:=rfl
end Go.Proofs.YtibaocbpeaejkaaGreat
/- What it is for a slice to read as digits to base 2^32, kept over whatever leaves old memory as it was. -/
namespace Go.Proofs.YtibaocbpeaejkaaGreat
open Go.RowKit

def Dig (w:World) (A:Option Addr) (n:Nat) (ds:List Nat):Prop :=
 n=ds.length/\Dg.ok ds/\(0<n->∃ b o,A=some ⟨b,o,none⟩/\b<w.heap.size/\∀ i (h:i<ds.length),w.cell? ⟨b,o+i,none⟩=some (.int .u32 (ds[i]:Nat)))

theorem Dig.below {w w':World} {A:Option Addr} {n:Nat} {ds:List Nat} (h:Dig w A n ds) (hb:Below w.heap.size w w'):Dig w' A n ds:=by
 refine⟨h.1,h.2.1,fun hn=>?_⟩
 obtain⟨b,o,hA,hlt,hc⟩:=h.2.2 hn
 exact⟨b,o,hA,Nat.lt_of_lt_of_le hlt hb.size,fun i hi=>(hb.cell (p:=⟨b,o+i,none⟩) hlt).trans (hc i hi)⟩
theorem Dig.len {w:World} {A:Option Addr} {n:Nat} {ds:List Nat} (h:Dig w A n ds):n=ds.length:=h.1
theorem Dig.at_ {w : World} {A : Option Addr} {n : Nat} {ds : List Nat} (h : Dig w A n ds) (hn : 0 < n) :
  ∃ b o,A=some ⟨b,o,none⟩/\b<w.heap.size/\∀ i,i<n->w.cell? ⟨b,o+i,none⟩=some (.int .u32 ((ds[i]?.getD 0:Nat):Int)):=by
 obtain⟨b,o,hA,hlt,hc⟩:=h.2.2 hn
 refine⟨b,o,hA,hlt,fun i hi=>?_⟩
 have hl:=h.1
 have hi':i<ds.length:=by omega
 rw[hc i hi',List.getElem?_eq_getElem hi'];rfl
theorem Dig.take {w:World} {A:Option Addr} {n k:Nat} {ds:List Nat} (h:Dig w A n ds) (hk:k≤n):Dig w A k (ds.take k):=by
 have hl:=h.1
 refine⟨by rw[List.length_take];omega,Dg.ok_take h.2.1 k,fun h0=>?_⟩
 obtain⟨b,o,hA,hlt,hc⟩:=h.2.2 (by omega)
 exact⟨b,o,hA,hlt,fun i hi=>by rw[List.getElem_take];exact hc i _⟩
theorem trim_prefix (ds:List Nat):Dg.trim ds=ds.take (Dg.trim ds).length:=by
 induction ds with
 | nil=>rfl
 | cons d l ih =>
  unfold Dg.trim
  split
  ·split <;> simp
  ·rename_i r h
   simp only[List.length_cons,List.take_succ_cons]
   rw[← ih]
theorem trim_length (ds:List Nat):(Dg.trim ds).length≤ds.length:=by
 have:=congrArg List.length (trim_prefix ds)
 rw[List.length_take]at this;omega
theorem Dig.trim {w:World} {A:Option Addr} {n:Nat} {ds:List Nat} (h:Dig w A n ds):Dig w A (Dg.trim ds).length (Dg.trim ds):=by
 have:=h.take (k:=(Dg.trim ds).length) (by have:=h.len;have:=trim_length ds;omega)
 rwa [← trim_prefix]at this
theorem Dig.alloc {w:World} {A:Option Addr} {n:Nat} {ds:List Nat} (h:Dig w A n ds) (o:Obj):Dig (w.alloc o) A n ds:=h.below ((Below.refl _ _).alloc (Nat.le_refl _) o)
theorem Dig.drew {w:World} {A:Option Addr} {n:Nat} {ds:List Nat} (h:Dig w A n ds):Dig w.drew A n ds:=h
theorem Dig.nil (w:World):Dig w none 0 []:=⟨rfl,Dg.ok_nil,fun h=>absurd h (by omega)⟩
theorem Dig.ok {w:World} {A:Option Addr} {n:Nat} {ds:List Nat} (h:Dig w A n ds):Dg.ok ds:=h.2.1
theorem Dig.of_block {w : World} {b t : Nat} {cs : Array Value} {ds : List Nat} {m : Nat × Nat} (h : w.heap[b]? = some (.cells cs t m)) (hc : cs.toList = ds.map fun d : Nat => Value.int .u32 d) (ho : Dg.ok ds) :
  Dig w (some ⟨b,0,none⟩) ds.length ds:=by
 refine⟨rfl,ho,fun _=>⟨b,0,rfl,?_,fun i hi=>?_⟩⟩
 ·rcases Nat.lt_or_ge b w.heap.size with h1 | h1
  ·exact h1
  ·rw[Array.getElem?_eq_none h1]at h;cases h
 ·simp only[World.cell?,h,Nat.zero_add]
  have:cs[i]? = cs.toList[i]? := by simp
  simp only[Option.isSome_none]
  rw[if_neg (by simp),this,hc]
  simp[hi]

def LIM:Nat:=2^40
def u32s (ds:List Nat):List Value:=ds.map fun d:Nat=>Value.int .u32 d
theorem u32s_length (ds:List Nat):(u32s ds).length=ds.length:=by simp[u32s]
theorem u32s_set (ds:List Nat) (i d:Nat):(u32s ds).set i (.int .u32 d)=u32s (ds.set i d):=by simp[u32s,List.map_set]
theorem u32s_get (ds:List Nat) (i:Nat) (h:i<ds.length):(u32s ds)[i]? = some (.int .u32 ((ds[i]?.getD 0:Nat):Int)):=by simp[u32s,h]
def OwnD (w:World) (base g n:Nat) (ds:List Nat):Prop:=ds.length=n/\Dg.ok ds/\w.ownsRow base 73 1 (.slice (some ⟨g,0,none⟩) n n) n (u32s ds)
theorem OwnD.cell {w:World} {base g n:Nat} {ds:List Nat} (h:OwnD w base g n ds) {i:Nat} (hi:i<n):w.cell? ⟨g,i,none⟩=some (.int .u32 ((ds[i]?.getD 0:Nat):Int)):=by
 rw[h.2.2.cellAt i (by omega),u32s_get ds i (by have:=h.1;omega)]
theorem OwnD.frozen {w:World} {base g n:Nat} {ds:List Nat} (h:OwnD w base g n ds) (i:Nat):w.frozen? ⟨g,i,none⟩=false:=h.2.2.frozenAt i
theorem OwnD.set_ {w:World} {base g n:Nat} {ds:List Nat} (h:OwnD w base g n ds) (i d:Nat) (hd:d<Dg.B):OwnD (w.setCell ⟨g,i,none⟩ (.int .u32 d)) base g n (ds.set i d):=by
 refine⟨by simpa using h.1,Dg.ok_set h.2.1 hd,?_⟩
 rw[← u32s_set]
 exact(h.2.2.stored i _).1
theorem OwnD.base {w:World} {base g n:Nat} {ds:List Nat} (h:OwnD w base g n ds):base≤g/\g<w.heap.size:=h.2.2.lt g rfl
theorem OwnD.below {w w':World} {base g n:Nat} {ds:List Nat} (h:OwnD w base g n ds) (hb:Below w.heap.size w w'):OwnD w' base g n ds:=by
 exact⟨h.1,h.2.1,h.2.2.kept (row:=none) (w':=w') ⟨hb.os,hb.tape,hb.output,hb.size,fun k hk _=>hb.block k hk⟩ (.inr (by simp[Value.ownBlock]))⟩
theorem OwnD.dig {w:World} {base g n:Nat} {ds:List Nat} (h:OwnD w base g n ds):Dig w (some ⟨g,0,none⟩) n ds:=by
 refine⟨h.1.symm,h.2.1,fun _=>⟨g,0,rfl,h.base.2,fun i hi=>?_⟩⟩
 rw[Nat.zero_add,h.cell (by have:=h.1;omega)]
 simp[hi]
theorem OwnD.made {w:World} {base g n:Nat} (h:w.ownsRow base 73 1 (.slice (some ⟨g,0,none⟩) n n) n (madeCells (Value.int .u32 0).cells (n*1)).toList):OwnD w base g n (List.replicate n 0):=by
 refine⟨by simp,Dg.ok_replicate n,?_⟩
 have e:(madeCells (Value.int .u32 0).cells (n*1)).toList=u32s (List.replicate n 0):=by
  rw[Nat.mul_one]
  show(madeCells #[Value.int .u32 0] n).toList=_
  rw[toList_madeCells_one];simp[u32s]
 rwa [e]at h

def RInt (w:World) (v:Value) (x:Int) (L:Nat):Prop :=
 ∃ neg A n c ds,v = .agg #[.bool neg,.slice A n c]/\Dig w A n ds/\n≤c/\n≤L/\x=sgn neg (Dg.val ds)
def NInt (w:World) (v:Value) (x:Int) (L:Nat):Prop :=
 ∃ neg A n c ds,v = .agg #[.bool neg,.slice A n c]/\Dig w A n ds/\n≤c/\n≤L/\x=sgn neg (Dg.val ds)/\Dg.trimmed ds/\(neg=true->0<n)
theorem NInt.below {w w':World} {v:Value} {x:Int} {L:Nat} (h:NInt w v x L) (hb:Below w.heap.size w w'):NInt w' v x L:=by
 obtain⟨neg,A,n,c,ds,h1,h2,h3⟩:=h
 exact⟨neg,A,n,c,ds,h1,h2.below hb,h3⟩
theorem NInt.mono {w:World} {v:Value} {x:Int} {L L':Nat} (h:NInt w v x L) (hL:L≤L'):NInt w v x L':=by
 obtain⟨neg,A,n,c,ds,h1,h2,h3,h4,h5⟩:=h
 exact⟨neg,A,n,c,ds,h1,h2,h3,by omega,h5⟩
theorem bel_drewN {B:Nat} {a w:World} (h:Below B a w) (k:Nat):Below B a (w.drewN k):=⟨h.os,h.tape,h.output,h.size,h.block⟩
theorem ret_int {k:IntKind} {a b:Int} (h:a=b):Ending.returned (.int k a) = .returned (.int k b):=by rw[h]
theorem bel_ext {a b c:World} (h:Below a.heap.size a b) (k:Below b.heap.size b c):Below a.heap.size a c:=h.trans (k.mono h.size)
end Go.Proofs.YtibaocbpeaejkaaGreat
/- The functions trimmed, signed, wide, word, sign of package bigint: what each computes. The lengths are at most maxLen. -/
namespace Go.Proofs.YtibaocbpeaejkaaGreat
open Go.RowKit
theorem trim_snoc_zero (l:List Nat):Dg.trim (l++[0])=Dg.trim l:=by
 induction l with
 | nil=>rfl
 | cons d l ih=>simp only[List.cons_append,Dg.trim,ih]
theorem trim_take_of_zero {ds:List Nat} {k:Nat} (hk:k<ds.length) (h0:ds[k]?.getD 0=0):Dg.trim (ds.take (k+1))=Dg.trim (ds.take k):=by
 rw[List.take_succ_eq_append_getElem hk]
 have:ds[k]=0:=by simpa [hk] using h0
 rw[this,trim_snoc_zero]
theorem trim_take_of_pos {ds:List Nat} {k:Nat} (ho:Dg.ok ds) (hk:k<ds.length) (h0:ds[k]?.getD 0≠0):Dg.trim (ds.take (k+1))=ds.take (k+1):=by
 refine Dg.trim_of_trimmed (Dg.ok_take ho _) ?_
 rw[List.take_succ_eq_append_getElem hk]
 intro d hd
 rw[List.getLast?_concat]at hd
 injection hd with hd
 subst hd
 simpa [hk] using h0
theorem nat_beq_zero {d:Nat}:(((d:Int) == 0)=true->d=0)/\(((d:Int) == 0)=false->d≠0):=by
 constructor <;> intro h <;> simp at h <;> omega

theorem ret_slice {A:Option Addr} {n m c:Nat} (h:n=m):Ending.returned (.slice A n c) = .returned (.slice A m c):=by rw[h]

theorem trimmed_any (A : Option Addr) (n c : Nat) (ds : List Nat) (w : World) (hd : Dig w A n ds) (hn : n ≤ maxLen) (hc : n ≤ c) :
  Calls Tryz.prog 83 #[.slice A n c] w fun e w'=>e = .returned (.slice A (Dg.trim ds).length c)/\w=w':=by
 unfold maxLen at hn
 have H:=Lib.hid hd
 clear hd
 go_enter Tryz.func83,Tryz.ntmps83
 go_wp2
 go_loop [0] (fun v=>∃ k,k≤n/\v = .slice A k c/\Hid (Dg.trim (ds.take k)=Dg.trim ds)) (fun v=>match v with | .slice _ k _=>k | _=>0)
 case atStart=>exact⟨n,by omega,rfl,by show _=_;rw[List.take_of_length_le (by have:=H.out.len;omega)]⟩
 case round =>
  obtain⟨k,hk,rfl,HI⟩:=hrel
  by_cases h0:0<k
  ·obtain⟨b,o,rfl,hlt,hcell⟩:=H.out.at_ (by omega)
   have hck:=hcell (k-1) (by omega)
   clear hcell
   go_wp2
   ·go_round
    case rel =>
     have hz:ds[k-1]?.getD 0=0:=nat_beq_zero.1 (by assumption)
     refine⟨k-1,by omega,rfl,?_⟩
     show _=_
     have:=trim_take_of_zero (k:=k-1) (by have:=H.out.len;omega) hz
     rw[← this,Nat.sub_add_cancel h0];exact HI.out
    case measure=>simp;omega
   ·go_ret
    have hz:ds[k-1]?.getD 0≠0:=nat_beq_zero.2 (by assumption)
    have:=trim_take_of_pos (k:=k-1) H.out.2.1 (by have:=H.out.len;omega) hz
    rw[Nat.sub_add_cancel h0]at this
    exact⟨ret_slice (by rw[← HI.out,this,List.length_take];have:=H.out.len;omega),rfl⟩
  ·obtain rfl:k=0:=by omega
   go_wp2
   go_ret
   exact⟨ret_slice (by rw[← HI.out];rfl),rfl⟩

theorem signed_any (neg : Bool) (A : Option Addr) (n c : Nat) (ds : List Nat) (w : World) (hd : Dig w A n ds) (hn : n ≤ maxLen) (hc : n ≤ c) :
  Calls Tryz.prog 76 #[.bool neg,.slice A n c] w fun e w'=>∃ v,e = .returned v/\NInt w' v (sgn neg (Dg.val ds)) n/\Below w.heap.size w w':=by
 have H:=Lib.hid hd
 clear hd
 have hmx:n≤9223372036854775807:=by unfold maxLen at hn;exact hn
 have key:∀(W:World) (nb:Bool),nb=(neg&&decide (0<(Dg.trim ds).length))->Below w.heap.size w W ->
   ∃ v,Ending.returned (.agg #[.bool nb,.slice A (Dg.trim ds).length c]) = .returned v/\NInt W v (sgn neg (Dg.val ds)) n/\Below w.heap.size w W:=by
  intro W nb hnb hb
  have hl:=trim_length ds
  have hl2:=H.out.len
  refine⟨_,rfl,⟨nb,A,_,c,Dg.trim ds,rfl,H.out.trim.below hb,by omega,by omega,?_,Dg.trim_trimmed _,?_⟩,hb⟩
  ·rw[Dg.val_trim,hnb]
   by_cases h0:0<(Dg.trim ds).length
   ·simp[h0]
   ·have h1:(Dg.trim ds).length=0:=by omega
    have h2:Dg.val ds=0:=by rw[← Dg.val_trim,List.length_eq_zero_iff.1 h1];rfl
    rw[h2];cases neg <;> simp[sgn]
  ·rw[hnb];intro h;simp at h;simpa [List.length_pos_iff] using h.2
 have hle:(Dg.trim ds).length≤9223372036854775807:=by have:=trim_length ds;have:=H.out.len;omega
 have T:∀ W,Below w.heap.size w W->Calls Tryz.prog 83 #[.slice A n c] W fun e w'=>e = .returned (.slice A (Dg.trim ds).length c)/\W=w' :=
  fun W hb=>trimmed_any A n c ds W (H.out.below hb) hn hc
 generalize (Dg.trim ds).length=m at key hle T
 have K:=Lib.hid key
 have T':=Lib.hid T
 clear key T
 cases neg
 all_goals
  by_cases h0:0<m
  all_goals
   go_enter Tryz.func76,Tryz.ntmps76
   go_wp2_with (go_at_call 83;refine(T'.out _ (by go_grown)).mono ?_;rintro e w' ⟨rfl,rfl⟩)
   refine bodyPost_ret (v := .agg #[.bool _,.slice A m c]) (by simp[results,Tryz.results76,go_sem];try rfl) rfl ?_
   refine K.out _ _ ?_ ?_
   ·simp[h0]
   ·go_grown
end Go.Proofs.YtibaocbpeaejkaaGreat
/- The functions wide, word, sign, compare of package bigint: what each computes. -/
namespace Go.Proofs.YtibaocbpeaejkaaGreat
open Go.RowKit
def IsDig (w:World) (v:Value) (x L:Nat):Prop:=∃ A n c ds,v = .slice A n c/\Dig w A n ds/\n≤c/\n≤L/\Dg.trimmed ds/\Dg.val ds=x

theorem IsDig.new (w : World) (t : Nat) (cs : Array Value) (ds : List Nat) (L : Nat) (hc : cs.toList = ds.map fun d : Nat => Value.int .u32 d) (ho : Dg.ok ds) (ht : Dg.trimmed ds) (hL : ds.length ≤ L) :
  IsDig (w.alloc (.cells cs t)) (.slice (some ⟨w.heap.size,0,none⟩) ds.length ds.length) (Dg.val ds) L :=
 ⟨_,_,_,ds,rfl,Dig.of_block (heap_alloc_new w _) hc ho,Nat.le_refl _,hL,ht,rfl⟩
theorem IsDig.below {w w':World} {v:Value} {x L:Nat} (h:IsDig w v x L) (hb:Below w.heap.size w w'):IsDig w' v x L:=by
 obtain⟨A,n,c,ds,h1,h2,h3⟩:=h
 exact⟨A,n,c,ds,h1,h2.below hb,h3⟩
theorem trimmed_one {x:Nat} (h:0<x):Dg.trimmed [x]:=by intro d hd;simp at hd;omega
theorem trimmed_two {x y:Nat} (h:0<y):Dg.trimmed [x,y]:=by intro d hd;simp at hd;omega
set_option maxHeartbeats 400000 in
theorem wide_any (x : Nat) (w : World) (hx : x < Dg.B * Dg.B) :
  Calls Tryz.prog 77 #[.int .u64 x] w fun e w'=>∃ v,e = .returned v/\IsDig w' v x 2/\Below w.heap.size w w':=by
 have HX:=Lib.hid hx
 clear hx
 by_cases h0:x=0
 ·subst h0
  go_enter Tryz.func77,Tryz.ntmps77
  go_wp2
  go_ret
  exact⟨_,rfl,⟨none,0,0,[],rfl,Dig.nil _,by omega,by omega,by intro d h;simp at h,rfl⟩,Below.refl _ _⟩
 ·obtain⟨X,hX⟩:∃ X:Int,X=x:=⟨_,rfl⟩
  have hX0:0<X:=by omega
  rw[← hX]
  have HXe:=Lib.hid hX
  clear hX h0
  by_cases h1:X<4294967296
  ·have hb:(X == 0)=false:=by simp;omega
   go_enter Tryz.func77,Tryz.ntmps77
   go_wp2
   go_ret
   have hx1:x<Dg.B:=by have:=HXe.out;rw[Dg.B_eq];omega
   have hc:(#[Value.int .u32 (X%4294967296)]:Array Value).toList=[x].map fun d:Nat=>Value.int .u32 d:=by
    have:=HXe.out
    simp;omega
   have R:=IsDig.new w 73 _ [x] 2 hc (Dg.ok_cons.2 ⟨hx1,Dg.ok_nil⟩) (trimmed_one (by have:=HXe.out;omega)) (by simp)
   have hv:Dg.val [x]=x:=by simp[Dg.val]
   rw[hv,show X%4294967296=X from by omega]at R
   exact⟨_,rfl,R,by go_grown⟩
  ·have hb:(X == 0)=false:=by simp;omega
   go_enter Tryz.func77,Tryz.ntmps77
   go_wp2
   go_ret
   have hx2:x / Dg.B<Dg.B:=Nat.div_lt_of_lt_mul HX.out
   have hx3:x%Dg.B<Dg.B:=Nat.mod_lt _ Dg.B_pos
   have hx4:0<x / Dg.B:=by have:=HXe.out;rw[Dg.B_eq];omega
   have hc:(#[Value.int .u32 (X%4294967296),Value.int .u32 (X / 4294967296%4294967296)]:Array Value).toList=[x%Dg.B,x / Dg.B].map fun d:Nat=>Value.int .u32 d:=by
    have:=HXe.out
    rw[Dg.B_eq]at hx2 ⊢
    simp;omega
   have R:=IsDig.new w 73 _ [x%Dg.B,x / Dg.B] 2 hc (Dg.ok_cons.2 ⟨hx3,Dg.ok_cons.2 ⟨hx2,Dg.ok_nil⟩⟩) (trimmed_two hx4) (by simp)
   have hv:Dg.val [x%Dg.B,x / Dg.B]=x:=by simp only[Dg.val,Nat.mul_zero,Nat.add_zero];exact Nat.mod_add_div x Dg.B
   rw[hv]at R
   exact⟨_,rfl,R,by go_grown⟩
set_option maxHeartbeats 400000 in
theorem sign_any (x : Int) (w : World) :
  Calls Tryz.prog 159 #[.int .i64 x] w fun e w'=>e = .returned (.int .i64 x.sign)/\w=w':=by
 rcases Int.lt_trichotomy x 0 with h | h | h
 ·have e:x.sign = -1:=Int.sign_eq_neg_one_of_neg h
  rw[e]
  clear e
  go_enter Tryz.func159,Tryz.ntmps159
  go_wp2
  go_ret
  exact⟨rfl,rfl⟩
 ·subst h
  go_enter Tryz.func159,Tryz.ntmps159
  go_wp2
  go_ret
  exact⟨rfl,rfl⟩
 ·have e:x.sign=1:=Int.sign_eq_one_of_pos h
  rw[e]
  clear e
  go_enter Tryz.func159,Tryz.ntmps159
  go_wp2
  go_ret
  exact⟨rfl,rfl⟩

theorem word_any (A : Option Addr) (n c : Nat) (ds : List Nat) (w : World) (hd : Dig w A n ds) (h2 : n ≤ 2) :
  Calls Tryz.prog 162 #[.slice A n c] w fun e w'=>e = .returned (.int .u64 (Dg.val ds:Nat))/\Below w.heap.size w w':=by
 have H:=Lib.hid hd
 clear hd
 match n,h2 with
 | 0,_ =>
  obtain rfl:ds=[]:=List.length_eq_zero_iff.1 H.out.len.symm
  go_enter Tryz.func162,Tryz.ntmps162
  go_wp2
  go_ret
  exact⟨rfl,Below.refl _ _⟩
 | 1,_ =>
  obtain⟨b,o,rfl,hlt,hcell⟩:=H.out.at_ (by omega)
  obtain⟨d,rfl⟩:=List.length_eq_one_iff.1 H.out.len.symm
  have h0:=hcell 0 (by omega)
  have hb:=(Dg.ok_cons.1 H.out.ok).1
  rw[Dg.B_eq]at hb
  simp only[List.getElem?_cons_zero,Option.getD_some,Nat.add_zero]at h0
  obtain⟨X,hX⟩:∃ X:Int,X=d:=⟨_,rfl⟩
  have hX0:0≤X:=by omega
  have hX1:X<4294967296:=by omega
  rw[← hX]at h0
  have HXe:=Lib.hid hX
  clear hX hb hcell
  go_enter Tryz.func162,Tryz.ntmps162
  go_wp2
  go_ret
  exact⟨by rw[HXe.out];simp[Dg.val],Below.refl _ _⟩
 | 2,_ =>
  obtain⟨b,o,rfl,hlt,hcell⟩:=H.out.at_ (by omega)
  obtain⟨d,d',rfl⟩:∃ d d',ds=[d,d']:=by
   have:=H.out.len
   match ds,this with
   | [d,d'],_=>exact⟨d,d',rfl⟩
  have h0:=hcell 0 (by omega)
  have h1:=hcell 1 (by omega)
  have hb:=Dg.ok_cons.1 H.out.ok
  have hb':=(Dg.ok_cons.1 hb.2).1
  have hb:=hb.1
  simp only[List.getElem?_cons_zero,List.getElem?_cons_succ,Option.getD_some,Nat.add_zero]at h0 h1
  have HB:=Lib.hid hb
  have HB':=Lib.hid hb'
  rw[Dg.B_eq]at hb hb'
  obtain⟨X,hX⟩:∃ X:Int,X=d:=⟨_,rfl⟩
  have hX0:0≤X:=by omega
  have hX1:X<4294967296:=by omega
  rw[← hX]at h0
  have HXe:=Lib.hid hX
  obtain⟨Y,hY⟩:∃ X:Int,X=d':=⟨_,rfl⟩
  have hY0:0≤Y:=by omega
  have hY1:Y<4294967296:=by omega
  rw[← hY]at h1
  have HYe:=Lib.hid hY
  clear hX hY hb hb' hcell
  go_enter Tryz.func162,Tryz.ntmps162
  go_wp2
  go_quiet (fail)
  go_wp2
  go_ret
  have e:bits BinOp.or .u64 (Y*4294967296) X=((Dg.val [d,d']:Nat):Int):=by
   have h1:=HB.out
   have h2:=HB'.out
   have h3:=Dg.or_high (x:=d) (h:=d') h1
   have e1:Y*4294967296=((d'*Dg.B:Nat):Int):=by rw[HYe.out,Dg.B_eq];omega
   rw[e1,HXe.out,u64_or_nat _ _ (by rw[Dg.B_eq]at *;omega) (by rw[Dg.B_eq]at *;omega),Nat.or_comm,h3]
   simp only[Dg.val,Nat.mul_zero,Nat.add_zero]
   rw[Nat.mul_comm]
  exact⟨by rw[e];rfl,bel_drewN (Below.refl _ _) _⟩
end Go.Proofs.YtibaocbpeaejkaaGreat
/- The function compare of package bigint: the order of two numbers by their digits, which have no leading zeros. -/
namespace Go.Proofs.YtibaocbpeaejkaaGreat
open Go.RowKit
def cmpN (a b:Nat):Int:=((a:Int)-b).sign
theorem cmpN_lt {a b:Nat} (h:a<b):cmpN a b = -1:=Int.sign_eq_neg_one_of_neg (by omega)
theorem cmpN_gt {a b:Nat} (h:b<a):cmpN a b=1:=Int.sign_eq_one_of_pos (by omega)
theorem cmpN_self (a:Nat):cmpN a a=0:=by simp[cmpN]
theorem cmp_top {a b:List Nat} {q n:Nat} (hA:n=a.length) (hB:n=b.length) (oa:Dg.ok a) (hq:q<n) (hd:a.drop (q+1)=b.drop (q+1)) (h:a[q]?.getD 0<b[q]?.getD 0):Dg.val a<Dg.val b:=by
 refine Dg.lt_of_top oa (by omega) (by omega) hd ?_
 rwa [List.getElem?_eq_getElem (by omega),List.getElem?_eq_getElem (by omega)]at h
theorem cmp_same {a b:List Nat} {q n:Nat} (hA:n=a.length) (hB:n=b.length) (hq:q<n) (hd:a.drop (q+1)=b.drop (q+1)) (h:a[q]?.getD 0=b[q]?.getD 0):a.drop q=b.drop q:=by
 rw[List.drop_eq_getElem_cons (l:=a) (i:=q) (by omega),List.drop_eq_getElem_cons (l:=b) (i:=q) (by omega),hd]
 congr 1
 rwa [List.getElem?_eq_getElem (by omega),List.getElem?_eq_getElem (by omega)]at h
set_option maxHeartbeats 1000000 in
theorem compare_any (A A' : Option Addr) (n c n' c' : Nat) (a b : List Nat) (w : World) (ha : Dig w A n a) (hb : Dig w A' n' b) (ta : Dg.trimmed a) (tb : Dg.trimmed b) (hn : n ≤ maxLen) (hn' : n' ≤ maxLen) :
  Calls Tryz.prog 122 #[.slice A n c,.slice A' n' c'] w fun e w'=>e = .returned (.int .i64 (cmpN (Dg.val a) (Dg.val b)))/\Below w.heap.size w w':=by
 unfold maxLen at hn hn'
 have HA:=Lib.hid ha
 have HB:=Lib.hid hb
 have TA:=Lib.hid ta
 have TB:=Lib.hid tb
 clear ha hb ta tb
 by_cases hne:n=n'
 ·subst hne
  go_enter Tryz.func122,Tryz.ntmps122
  go_wp2
  go_loopw [5] (fun v wr=>∃ k,k≤n/\v = .int .i64 ((k:Int)-1)/\Hid (a.drop k=b.drop k)/\Below w.heap.size w wr) (fun v _=>(intOf v+1).toNat)
  case atStart=>exact⟨n,by omega,rfl,by show _=_;rw[List.drop_of_length_le (by have:=HA.out.len;omega),List.drop_of_length_le (by have:=HB.out.len;omega)],Below.refl _ _⟩
  case round =>
   obtain⟨k,hk,rfl,HI,hbw⟩:=hrel
   by_cases h0:0<k
   ·obtain⟨b1,o1,rfl,hlt1,hcell1⟩:=(HA.out.below hbw).at_ (by omega)
    obtain⟨b2,o2,rfl,hlt2,hcell2⟩:=(HB.out.below hbw).at_ (by omega)
    obtain⟨q,rfl⟩:∃ q,k=q+1:=⟨k-1,by omega⟩
    have hc1:=hcell1 q (by omega)
    have hc2:=hcell2 q (by omega)
    clear hcell1 hcell2
    have hi0:(0:Int)≤q:=by omega
    have hi1:(q:Int)<n:=by omega
    obtain⟨x,hx⟩:∃ x,x=a[q]?.getD 0:=⟨_,rfl⟩
    obtain⟨y,hy⟩:∃ y,y=b[q]?.getD 0:=⟨_,rfl⟩
    rw[← hx]at hc1
    rw[← hy]at hc2
    have HX:=Lib.hid hx
    have HY:=Lib.hid hy
    clear hx hy
    rcases Nat.lt_trichotomy x y with hxy | hxy | hxy
    ·have hv:=cmpN_lt (cmp_top HA.out.len HB.out.len HA.out.ok (by omega) HI.out (by rw[← HX.out,← HY.out];exact hxy))
     have HV:=Lib.hid hv
     clear hv
     have hb1:((x:Int) != (y:Int))=true:=by rw[bne_iff_ne];omega
     go_wp2
     go_quiet (fail)
     go_wp2
     go_quiet (fail)
     go_wp2
     go_ret
     exact⟨ret_int HV.out.symm,bel_drewN (bel_drewN hbw _) _⟩
    ·have hv:=cmp_same HA.out.len HB.out.len (by omega) HI.out (by rw[← HX.out,← HY.out];exact hxy)
     have HV:=Lib.hid hv
     clear hv
     have hb1:((x:Int) != (y:Int))=false:=by rw[bne_eq_false_iff_eq];omega
     clear hxy
     go_wp2
     go_quiet (fail)
     go_wp2
     go_roundw
     case rel=>exact⟨q,by omega,rfl,HV.out,bel_drewN hbw _⟩
     case measure=>simp[intOf] <;> omega
    ·have hv:=cmpN_gt (cmp_top HB.out.len HA.out.len HB.out.ok (by omega) HI.out.symm (by rw[← HX.out,← HY.out];exact hxy))
     have HV:=Lib.hid hv
     clear hv
     have hb1:((x:Int) != (y:Int))=true:=by rw[bne_iff_ne];omega
     go_wp2
     go_quiet (fail)
     go_wp2
     go_quiet (fail)
     go_wp2
     go_ret
     exact⟨ret_int HV.out.symm,bel_drewN (bel_drewN hbw _) _⟩
   ·obtain rfl:k=0:=by omega
    have hv:cmpN (Dg.val a) (Dg.val b)=0:=by
     have h1:=HI.out
     simp only[List.drop_zero]at h1
     rw[h1];exact cmpN_self _
    have HV:=Lib.hid hv
    clear hv
    go_wp2
    go_ret
    exact⟨ret_int HV.out.symm,hbw⟩
 ·have hv:cmpN (Dg.val a) (Dg.val b)=((n:Int)-n').sign:=by
   rcases Nat.lt_or_gt_of_ne hne with h | h
   ·rw[cmpN_lt (Dg.val_lt_of_length HA.out.ok TB.out (by have:=HA.out.len;have:=HB.out.len;omega)),Int.sign_eq_neg_one_of_neg (by omega)]
   ·rw[cmpN_gt (Dg.val_lt_of_length HB.out.ok TA.out (by have:=HA.out.len;have:=HB.out.len;omega)),Int.sign_eq_one_of_pos (by omega)]
  have HV:=Lib.hid hv
  clear hv
  have hb1:((n:Int) != (n':Int))=true:=by rw[bne_iff_ne];omega
  go_enter Tryz.func122,Tryz.ntmps122
  go_wp2_with (go_at_call 159;refine(sign_any _ _).mono ?_;rintro e w' ⟨rfl,rfl⟩)
  go_ret
  exact⟨ret_int HV.out.symm,Below.refl _ _⟩
end Go.Proofs.YtibaocbpeaejkaaGreat
/- The functions Add32, Sub32, Div32 of package math/bits: what each computes on numbers below 2^32. -/
namespace Go.Proofs.YtibaocbpeaejkaaGreat
open Go.RowKit
theorem top_dec {e:Nat} (h:e<4294967296):e.testBit 31=decide (2147483648≤e):=by
 rw[Nat.testBit_eq_decide_div_mod_eq]
 simp only[show(2:Nat)^31=2147483648 from rfl]
 by_cases h1:2147483648≤e
 ·simp[h1];omega
 ·simp[h1];omega
theorem sub_bits (x y c d : Nat) (hx : x < 4294967296) (hy : y < 4294967296) (hc : c ≤ 1) (hd : d < 4294967296) (b : Nat) (hb : d + y + c = x + 4294967296 * b) :
  (((4294967295 ^^^ x) &&& y) ||| ((4294967295 ^^^ (x ^^^ y)) &&& d)) / 2147483648=b:=by
 have hE:(((4294967295 ^^^ x) &&& y) ||| ((4294967295 ^^^ (x ^^^ y)) &&& d))<4294967296:=by
  have h1:(4294967295 ^^^ x) &&& y<2^32:=Nat.and_lt_two_pow _ hy
  have h2:(4294967295 ^^^ (x ^^^ y)) &&& d<2^32:=Nat.and_lt_two_pow _ hd
  exact Nat.or_lt_two_pow h1 h2
 have hT:(((4294967295 ^^^ x) &&& y) ||| ((4294967295 ^^^ (x ^^^ y)) &&& d)).testBit 31=decide (b=1):=by
  simp only[Nat.testBit_or,Nat.testBit_and,Nat.testBit_xor,top_dec hx,top_dec hy,top_dec hd]
  have e:Nat.testBit 4294967295 31=true:=by decide
  rw[e]
  by_cases h1:2147483648≤x <;> by_cases h2:2147483648≤y <;> by_cases h3:2147483648≤d <;> simp[h1,h2,h3] <;> omega
 rw[top_dec hE]at hT
 have:b≤1:=by omega
 by_cases h:b=1
 ·simp[h]at hT;omega
 ·simp[h]at hT;omega

def bor (x y c:Int):Int:=if x<y+c then 1 else 0
theorem bor_cases (x y c:Int):(x<y+c/\bor x y c=1)∨(y+c≤x/\bor x y c=0):=by
 unfold bor;split <;> omega
theorem sub_bits_int (x y c : Int) (hx : 0 ≤ x) (hx' : x < 4294967296) (hy : 0 ≤ y) (hy' : y < 4294967296) (hc : 0 ≤ c) (hc' : c ≤ 1) :
  bits BinOp.or IntKind.u32 (bits BinOp.and IntKind.u32 (bits BinOp.xor IntKind.u32 IntKind.u32.max x) y)
   (bits BinOp.and IntKind.u32 (bits BinOp.xor IntKind.u32 IntKind.u32.max (bits BinOp.xor IntKind.u32 x y)) ((x-y-c)%4294967296)) / 2147483648=bor x y c:=by
 obtain⟨a,rfl⟩:=Int.eq_ofNat_of_zero_le hx
 obtain⟨b,rfl⟩:=Int.eq_ofNat_of_zero_le hy
 obtain⟨k,rfl⟩:=Int.eq_ofNat_of_zero_le hc
 obtain⟨d,hd⟩:=Int.eq_ofNat_of_zero_le (a:=((a:Int)-b-k)%4294967296) (by omega)
 have hd':d<4294967296:=by omega
 have hmax:IntKind.u32.max=((4294967295:Nat):Int):=rfl
 have h1:(4294967295 ^^^ a)<4294967296:=Nat.xor_lt_two_pow (n:=32) (by omega) (by omega)
 have h2:(a ^^^ b)<4294967296:=Nat.xor_lt_two_pow (n:=32) (by omega) (by omega)
 have h3:(4294967295 ^^^ (a ^^^ b))<4294967296:=Nat.xor_lt_two_pow (n:=32) (by omega) h2
 have h4:(4294967295 ^^^ a) &&& b<4294967296:=Nat.and_lt_two_pow (n:=32) _ (by omega)
 have h5:(4294967295 ^^^ (a ^^^ b)) &&& d<4294967296:=Nat.and_lt_two_pow (n:=32) _ hd'
 rw[hd,hmax,u32_xor_nat _ _ (by omega) (by omega),u32_xor_nat _ _ (by omega) (by omega),u32_xor_nat _ _ (by omega) h2,u32_and_nat _ _ h1 (by omega),u32_and_nat _ _ h3 hd',u32_or_nat _ _ h4 h5]
 rcases bor_cases a b k with⟨h,e⟩ | ⟨h,e⟩ <;> rw[e]
 ·have:=sub_bits a b k d (by omega) (by omega) (by omega) hd' 1 (by omega)
  omega
 ·have:=sub_bits a b k d (by omega) (by omega) (by omega) hd' 0 (by omega)
  omega
theorem ret_two {k l:IntKind} {a b c d:Int} (h:a=b) (h':c=d):Ending.returned (.tuple #[.int k a,.int l c]) = .returned (.tuple #[.int k b,.int l d]):=by rw[h,h']
set_option maxHeartbeats 400000 in
theorem add32_any (x y c : Int) (w : World) (hx : 0 ≤ x) (hx' : x < 4294967296) (hy : 0 ≤ y) (hy' : y < 4294967296) (hc : 0 ≤ c) (hc' : c ≤ 1) :
  Calls Tryz.prog 158 #[.int .u32 x,.int .u32 y,.int .u32 c] w fun e w'=>e = .returned (.tuple #[.int .u32 ((x+y+c)%4294967296),.int .u32 ((x+y+c) / 4294967296)])/\w=w':=by
 go_enter Tryz.func158,Tryz.ntmps158
 go_wp2
 go_ret2
 exact⟨rfl,rfl⟩
set_option maxHeartbeats 400000 in
theorem sub32_any (x y c : Int) (w : World) (hx : 0 ≤ x) (hx' : x < 4294967296) (hy : 0 ≤ y) (hy' : y < 4294967296) (hc : 0 ≤ c) (hc' : c ≤ 1) :
  Calls Tryz.prog 160 #[.int .u32 x,.int .u32 y,.int .u32 c] w fun e w'=>e = .returned (.tuple #[.int .u32 ((x-y-c)%4294967296),.int .u32 (bor x y c)])/\w=w':=by
 have hs:IntKind.u32.signed=false:=rfl
 have E:=Lib.hid (sub_bits_int x y c hx hx' hy hy' hc hc')
 go_enter Tryz.func160,Tryz.ntmps160
 go_wp2
 go_ret2
 exact⟨ret_two (by omega) E.out,rfl⟩
set_option maxHeartbeats 400000 in
theorem div32_any (h l d : Int) (w : World) (h0 : 0 ≤ h) (hd : h < d) (hd' : d < 4294967296) (hl : 0 ≤ l) (hl' : l < 4294967296) :
  Calls Tryz.prog 183 #[.int .u32 h,.int .u32 l,.int .u32 d] w fun e w'=>e = .returned (.tuple #[.int .u32 ((h*4294967296+l) / d),.int .u32 ((h*4294967296+l)%d)])/\Below w.heap.size w w':=by
 have hb:(d != 0)=true:=by rw[bne_iff_ne];omega
 have hb2:decide (d≤h)=false:=by simp;omega
 have hor:bits BinOp.or IntKind.u64 (h*4294967296) l=h*4294967296+l:=by
  obtain⟨a,rfl⟩:=Int.eq_ofNat_of_zero_le h0
  obtain⟨b,rfl⟩:=Int.eq_ofNat_of_zero_le hl
  have h3:=Dg.or_high (x:=b) (h:=a) (by rw[Dg.B_eq];omega)
  rw[show((a:Int)*4294967296)=((a*Dg.B:Nat):Int)from by rw[Dg.B_eq];omega,u64_or_nat _ _ (by rw[Dg.B_eq];omega) (by omega),Nat.or_comm,h3]
  omega
 have hq0:0≤(h*4294967296+l) / d:=Int.ediv_nonneg (by omega) (by omega)
 have hq1:(h*4294967296+l) / d<4294967296:=by
  apply Int.ediv_lt_of_lt_mul (by omega)
  have:(h+1)*4294967296≤d*4294967296:=Int.mul_le_mul_of_nonneg_right (by omega) (by omega)
  rw[Int.mul_comm];omega
 have hr0:0≤(h*4294967296+l)%d:=Int.emod_nonneg _ (by omega)
 have hr1:(h*4294967296+l)%d<4294967296:=Int.lt_trans (Int.emod_lt_of_pos _ (by omega)) hd'
 have hd0:1≤d:=by omega
 go_enter Tryz.func183,Tryz.ntmps183
 go_wp2
 go_quiet (fail)
 go_wp2
 go_ret2
 refine⟨ret_two ?_ ?_,bel_drewN (Below.refl _ _) _⟩
 ·omega
 ·omega
end Go.Proofs.YtibaocbpeaejkaaGreat
/- The function plus of package bigint: the sum of two numbers by their digits. The lengths are at most 2^40. -/
namespace Go.Proofs.YtibaocbpeaejkaaGreat
open Go.RowKit
theorem info158:(Tryz.prog.info? 73).map (fun i=>(i.zero,i.size,i.bytes))=some (some (.int .u32 0),1,4):=by kernel_rfl
theorem plus_round {a b o : List Nat} {k n : Nat} {X Y C : Int} (hX : X = (a[k]?.getD 0 : Nat)) (hY : Y = (b[k]?.getD 0 : Nat)) (hC0 : 0 ≤ C) (ho : o.length = n + 1) (hk : k < n)
  (hI:Dg.val (o.take k)+Dg.B^k*C.toNat=Dg.val (a.take k)+Dg.val (b.take k)) :
  ∃ d:Nat,(X+Y+C)%4294967296=d/\d<Dg.B/\Dg.val ((o.set k d).take (k+1))+Dg.B^(k+1)*((X+Y+C) / 4294967296).toNat=Dg.val (a.take (k+1))+Dg.val (b.take (k+1)):=by
 obtain⟨c,rfl⟩:=Int.eq_ofNat_of_zero_le hC0
 have h:=Dg.plus_step (a:=a) (b:=b) (o:=o) (k:=k) (c:=c) (by omega) (by simpa using hI)
 refine⟨(a[k]?.getD 0+b[k]?.getD 0+c)%Dg.B,?_,Nat.mod_lt _ Dg.B_pos,?_⟩
 ·rw[hX,hY,Dg.B_eq];omega
 ·rw[← h]
  congr 2
  rw[hX,hY,Dg.B_eq];omega
set_option maxHeartbeats 1000000 in
theorem plus_aux (sw : Bool) (A A' : Option Addr) (n c n' c' : Nat) (a b : List Nat) (w : World) (ha : Dig w A n a) (hb : Dig w A' n' b) (hn : n ≤ LIM) (h : n' ≤ n) (h' : sw = true → n' < n) :
  Calls Tryz.prog 121 (if sw then #[.slice A' n' c',.slice A n c]else #[.slice A n c,.slice A' n' c']) w fun e w'=>∃ g o,e = .returned (.slice (some ⟨g,0,none⟩) (n+1) (n+1))/\Dig w' (some ⟨g,0,none⟩) (n+1) o/\Dg.val o=Dg.val a+Dg.val b/\Below w.heap.size w w':=by
 have HA:=Lib.hid ha
 have HB:=Lib.hid hb
 clear ha hb
 obtain⟨i0,hi,hz0,hz1,hz2⟩:=info_parts info158
 unfold LIM at hn
 rcases sw with _ | _
 case' true=>have hd:decide (n'<n)=true:=by have:=h' rfl;simp;omega
 case' false=>have hd:decide (n<n')=false:=by simp;omega
 case' true=>show Calls _ _ #[.slice A' n' c',.slice A n c] w _
 case' false=>show Calls _ _ #[.slice A n c,.slice A' n' c'] w _
 all_goals
  clear h'
  go_enter Tryz.func121,Tryz.ntmps121
  go_wp2_with (at_make;(refine wpList_make_full _ rfl _ _ 28 rfl w.heap.size 73 i0 _ 1 Tryz.underlying28 hi hz0 hz1 .i64 .i64 _ _ (n+1) rfl rfl (by omega) (by omega) (by rw[hz2];omega) (by unfold maxLen;omega) (Nat.le_refl _) ?_);intro w1 hown hgr;have HO:=Lib.hid (OwnD.made hown);clear hown;have hb1:Below w.heap.size w w1:=(Below.refl _ _).grown hgr (Nat.le_refl _) (by simp);clear hgr)
  have hs1:w1.heap.size=w1.heap.size:=rfl
  clear hs1
  go_loopw [6,23] (fun u v wr=>∃(k:Nat) (C:Int) (o:List Nat),k≤n/\v = .int .i64 k/\u = .int .u32 C/\0≤C/\C≤1/\OwnD wr w.heap.size w.heap.size (n+1) o/\Hid (Dg.val (o.take k)+Dg.B^k*C.toNat=Dg.val (a.take k)+Dg.val (b.take k))/\Below w.heap.size w wr) (fun _ v _=>n-(intOf v).toNat)
  case atStart=>exact⟨0,0,_,by omega,rfl,rfl,by omega,by omega,HO.out,by show _=_;simp[Dg.val],hb1⟩
  case round =>
   obtain⟨k,C,o,hk,rfl,rfl,hC0,hC1,hO,HI,hbw⟩:=hrel
   have hoc:=hO.cell (i:=k) (by omega)
   have hof:=hO.frozen k
   have hOh:=Lib.hid hO
   clear hO
   by_cases hlt:k<n
   ·obtain⟨b1,o1,rfl,hl1,hcell1⟩:=(HA.out.below hbw).at_ (by omega)
    have hc1:=hcell1 k hlt
    have hx1:(a[k]?.getD 0)<4294967296:=Dg.ok_getD HA.out.ok k
    clear hcell1
    obtain⟨X,hX⟩:∃ X:Int,X=(a[k]?.getD 0:Nat):=⟨_,rfl⟩
    rw[← hX]at hc1
    have hX0:0≤X:=by omega
    have hX1:X<4294967296:=by omega
    have HX:=Lib.hid hX
    clear hX hx1
    have hdk:decide (k<n)=true:=by simp;omega
    by_cases hlt2:k<n'
    ·have hdk2:decide (k<n')=true:=by simp;omega
     obtain⟨b2,o2,rfl,hl2,hcell2⟩:=(HB.out.below hbw).at_ (by omega)
     have hc2:=hcell2 k hlt2
     have hx1:(b[k]?.getD 0)<4294967296:=Dg.ok_getD HB.out.ok k
     clear hcell2
     obtain⟨Y,hY⟩:∃ X:Int,X=(b[k]?.getD 0:Nat):=⟨_,rfl⟩
     rw[← hY]at hc2
     have hY0:0≤Y:=by omega
     have hY1:Y<4294967296:=by omega
     have HY:=Lib.hid hY
     clear hY hx1
     obtain⟨d,hd1,hd2,hd3⟩:=plus_round HX.out HY.out hC0 hOh.out.1 hlt HI.out
     have HS:=Lib.hid (hOh.out.set_ k d hd2)
     have HD3:=Lib.hid hd3
     have hS:(X+Y+C) / 4294967296≤1:=by omega
     have hS0:0≤(X+Y+C) / 4294967296:=by omega
     have hbn:Below w.heap.size w (wr.setCell ⟨w.heap.size,k,none⟩ (.int .u32 d)):=hbw.setCell (by simp) _
     clear hd2 hd3
     go_wp2_with (go_at_call 158;refine(add32_any _ _ _ _ hX0 hX1 hY0 hY1 hC0 hC1).mono ?_;rintro e w' ⟨rfl,rfl⟩)
     go_roundw
     case rel=>exact⟨k+1,_,_,by omega,by go_num,rfl,hS0,hS,HS.out,HD3.out,hbn⟩
     case measure=>simp[intOf] <;> omega
    ·have hdk2:decide (k<n')=false:=by simp;omega
     have hY:(0:Int)=(b[k]?.getD 0:Nat):=by
      have:=HB.out.len
      rw[List.getElem?_eq_none (by omega)];rfl
     have HY:=Lib.hid hY
     clear hY
     obtain⟨d,hd1,hd2,hd3⟩:=plus_round HX.out HY.out hC0 hOh.out.1 hlt HI.out
     rw[Int.add_zero]at hd1 hd3
     have HS:=Lib.hid (hOh.out.set_ k d hd2)
     have HD3:=Lib.hid hd3
     have hS:(X+C) / 4294967296≤1:=by omega
     have hS0:0≤(X+C) / 4294967296:=by omega
     have hbn:Below w.heap.size w (wr.setCell ⟨w.heap.size,k,none⟩ (.int .u32 d)):=hbw.setCell (by simp) _
     clear hd2 hd3
     go_wp2_with (go_at_call 158;refine(add32_any _ 0 _ _ hX0 hX1 (by omega) (by omega) hC0 hC1).mono ?_;rintro e w' ⟨rfl,rfl⟩)
     go_roundw
     case rel=>exact⟨k+1,_,_,by omega,by go_num,rfl,hS0,hS,HS.out,HD3.out,hbn⟩
     case measure=>simp[intOf] <;> omega
   ·obtain rfl:k=n:=by omega
    have hdk:decide (k<k)=false:=by simp
    obtain⟨d,rfl⟩:=Int.eq_ofNat_of_zero_le hC0
    have HS:=Lib.hid (hOh.out.set_ k d (by rw[Dg.B_eq];omega))
    have hbn:Below w.heap.size w (wr.setCell ⟨w.heap.size,k,none⟩ (.int .u32 d)):=hbw.setCell (by simp) _
    go_wp2
    go_ret
    refine⟨_,_,rfl,HS.out.dig,?_,hbn⟩
    have h1:=HI.out
    have h2:=hOh.out.1
    have h3:=HA.out.len
    have h4:=HB.out.len
    rw[List.take_of_length_le (l:=a) (by omega),List.take_of_length_le (l:=b) (by omega)]at h1
    rw[← h1,← Dg.take_all (l:=o.set k d) (k:=k+1) (by simp;omega),Dg.val_take_set_succ (by omega)]
    simp

theorem plus_any (A A' : Option Addr) (n c n' c' : Nat) (a b : List Nat) (w : World) (ha : Dig w A n a) (hb : Dig w A' n' b) (hn : n ≤ LIM) (hn' : n' ≤ LIM) :
  Calls Tryz.prog 121 #[.slice A n c,.slice A' n' c'] w fun e w'=>∃ g m o,e = .returned (.slice (some ⟨g,0,none⟩) m m)/\m≤max n n'+1/\Dig w' (some ⟨g,0,none⟩) m o/\Dg.val o=Dg.val a+Dg.val b/\Below w.heap.size w w':=by
 rcases Nat.lt_or_ge n n' with h | h
 ·refine(plus_aux true A' A n' c' n c b a w hb ha hn' (by omega) (fun _=>h)).mono ?_
  rintro e w' ⟨g,o,rfl,h1,h2,h3⟩
  exact⟨g,n'+1,o,rfl,by omega,h1,by omega,h3⟩
 ·refine(plus_aux false A A' n c n' c' a b w ha hb hn h (by simp)).mono ?_
  rintro e w' ⟨g,o,rfl,h1,h2,h3⟩
  exact⟨g,n+1,o,rfl,by omega,h1,by omega,h3⟩
end Go.Proofs.YtibaocbpeaejkaaGreat
/- The function less of package bigint: the difference of two numbers by their digits, of which the first is not the lesser one. The lengths are at most 2^40. -/
namespace Go.Proofs.YtibaocbpeaejkaaGreat
open Go.RowKit
theorem less_round {a b o : List Nat} {k n : Nat} {X Y C : Int} (hX : X = (a[k]?.getD 0 : Nat)) (hY : Y = (b[k]?.getD 0 : Nat)) (hX1 : X < 4294967296) (hY1 : Y < 4294967296) (hC0 : 0 ≤ C) (hC1 : C ≤ 1) (ho : o.length = n) (hk : k < n)
  (hI:Dg.val (o.take k)+Dg.val (b.take k)=Dg.val (a.take k)+Dg.B^k*C.toNat) :
  ∃ d:Nat,(X-Y-C)%4294967296=d/\d<Dg.B/\Dg.val ((o.set k d).take (k+1))+Dg.val (b.take (k+1))=Dg.val (a.take (k+1))+Dg.B^(k+1)*(bor X Y C).toNat:=by
 obtain⟨c,rfl⟩:=Int.eq_ofNat_of_zero_le hC0
 obtain⟨d,hd⟩:=Int.eq_ofNat_of_zero_le (a:=(X-Y-c)%4294967296) (by omega)
 refine⟨d,hd,by rw[Dg.B_eq];omega,Dg.less_step (c:=c) (by omega) (by simpa using hI) ?_⟩
 rw[Dg.B_eq]
 rcases bor_cases X Y c with⟨h,e⟩ | ⟨h,e⟩ <;> rw[e] <;> simp <;> omega
theorem less_end {a b o : List Nat} {n c : Nat} (ha : a.length = n) (hb : b.length ≤ n) (ho : o.length = n) (oo : Dg.ok o) (hab : Dg.val b ≤ Dg.val a)
  (hI:Dg.val (o.take n)+Dg.val (b.take n)=Dg.val (a.take n)+Dg.B^n*c):Dg.val o+Dg.val b=Dg.val a:=by
 rw[List.take_of_length_le (by omega),List.take_of_length_le (by omega),List.take_of_length_le (by omega)]at hI
 have h1:=Dg.val_lt oo
 rw[ho]at h1
 rcases Nat.eq_zero_or_pos c with h | h
 ·subst h;simpa using hI
 ·have:Dg.B^n*1≤Dg.B^n*c:=Nat.mul_le_mul_left _ h
  omega
set_option maxHeartbeats 1000000 in
theorem less_any (A A' : Option Addr) (n c n' c' : Nat) (a b : List Nat) (w : World) (ha : Dig w A n a) (hb : Dig w A' n' b) (hn : n ≤ LIM) (h : n' ≤ n) (hab : Dg.val b ≤ Dg.val a) :
  Calls Tryz.prog 123 #[.slice A n c,.slice A' n' c'] w fun e w'=>∃ g o,e = .returned (.slice (some ⟨g,0,none⟩) n n)/\Dig w' (some ⟨g,0,none⟩) n o/\Dg.val o+Dg.val b=Dg.val a/\Below w.heap.size w w':=by
 have HA:=Lib.hid ha
 have HB:=Lib.hid hb
 have HAB:=Lib.hid hab
 clear ha hb hab
 obtain⟨i0,hi,hz0,hz1,hz2⟩:=info_parts info158
 unfold LIM at hn
 go_enter Tryz.func123,Tryz.ntmps123
 go_wp2_with (at_make;refine wpList_make_full _ rfl _ _ 28 rfl w.heap.size 73 i0 _ 1 Tryz.underlying28 hi hz0 hz1 .i64 .i64 _ _ n rfl rfl (by omega) (by omega) (by rw[hz2];omega) (by unfold maxLen;omega) (Nat.le_refl _) ?_;intro w1 hown hgr;have HO:=Lib.hid (OwnD.made hown);clear hown;have hb1:Below w.heap.size w w1:=(Below.refl _ _).grown hgr (Nat.le_refl _) (by simp);clear hgr)
 go_loopw [6,15] (fun u v wr=>∃(k:Nat) (C:Int) (o:List Nat),k≤n/\v = .int .i64 k/\u = .int .u32 C/\0≤C/\C≤1/\OwnD wr w.heap.size w.heap.size n o/\Hid (Dg.val (o.take k)+Dg.val (b.take k)=Dg.val (a.take k)+Dg.B^k*C.toNat)/\Below w.heap.size w wr) (fun _ v _=>n-(intOf v).toNat)
 case atStart=>exact⟨0,0,_,by omega,rfl,rfl,by omega,by omega,HO.out,by show _=_;simp[Dg.val],hb1⟩
 case round =>
  obtain⟨k,C,o,hk,rfl,rfl,hC0,hC1,hO,HI,hbw⟩:=hrel
  by_cases hlt:k<n
  ·have hoc:=hO.cell (i:=k) (by omega)
   have hof:=hO.frozen k
   have hOh:=Lib.hid hO
   clear hO
   obtain⟨b1,o1,rfl,hl1,hcell1⟩:=(HA.out.below hbw).at_ (by omega)
   have hc1:=hcell1 k hlt
   have hx1:(a[k]?.getD 0)<4294967296:=Dg.ok_getD HA.out.ok k
   clear hcell1
   obtain⟨X,hX⟩:∃ X:Int,X=(a[k]?.getD 0:Nat):=⟨_,rfl⟩
   rw[← hX]at hc1
   have hX0:0≤X:=by omega
   have hX1:X<4294967296:=by omega
   have HX:=Lib.hid hX
   clear hX hx1
   have hdk:decide (k<n)=true:=by simp;omega
   by_cases hlt2:k<n'
   ·have hdk2:decide (k<n')=true:=by simp;omega
    obtain⟨b2,o2,rfl,hl2,hcell2⟩:=(HB.out.below hbw).at_ (by omega)
    have hc2:=hcell2 k hlt2
    have hx1:(b[k]?.getD 0)<4294967296:=Dg.ok_getD HB.out.ok k
    clear hcell2
    obtain⟨Y,hY⟩:∃ X:Int,X=(b[k]?.getD 0:Nat):=⟨_,rfl⟩
    rw[← hY]at hc2
    have hY0:0≤Y:=by omega
    have hY1:Y<4294967296:=by omega
    have HY:=Lib.hid hY
    clear hY hx1
    obtain⟨d,hd1,hd2,hd3⟩:=less_round HX.out HY.out hX1 hY1 hC0 hC1 hOh.out.1 hlt HI.out
    have HS:=Lib.hid (hOh.out.set_ k d hd2)
    have HD3:=Lib.hid hd3
    have hS:bor X Y C≤1:=by rcases bor_cases X Y C with h | h <;> omega
    have hS0:0≤bor X Y C:=by rcases bor_cases X Y C with h | h <;> omega
    have hbn:Below w.heap.size w (wr.setCell ⟨w.heap.size,k,none⟩ (.int .u32 d)):=hbw.setCell (by simp) _
    clear hd2 hd3
    go_wp2_with (go_at_call 160;refine(sub32_any _ _ _ _ hX0 hX1 hY0 hY1 hC0 hC1).mono ?_;rintro e w' ⟨rfl,rfl⟩)
    go_roundw
    case rel=>exact⟨k+1,_,_,by omega,by go_num,rfl,hS0,hS,HS.out,HD3.out,hbn⟩
    case measure=>simp[intOf] <;> omega
   ·have hdk2:decide (k<n')=false:=by simp;omega
    have hY:(0:Int)=(b[k]?.getD 0:Nat):=by
     have:=HB.out.len
     rw[List.getElem?_eq_none (by omega)];rfl
    have HY:=Lib.hid hY
    clear hY
    obtain⟨d,hd1,hd2,hd3⟩:=less_round HX.out HY.out hX1 (by omega) hC0 hC1 hOh.out.1 hlt HI.out
    rw[Int.sub_zero]at hd1
    have HS:=Lib.hid (hOh.out.set_ k d hd2)
    have HD3:=Lib.hid hd3
    have hS:bor X 0 C≤1:=by rcases bor_cases X 0 C with h | h <;> omega
    have hS0:0≤bor X 0 C:=by rcases bor_cases X 0 C with h | h <;> omega
    have hbn:Below w.heap.size w (wr.setCell ⟨w.heap.size,k,none⟩ (.int .u32 d)):=hbw.setCell (by simp) _
    clear hd2 hd3
    go_wp2_with (go_at_call 160;refine(sub32_any _ 0 _ _ hX0 hX1 (by omega) (by omega) hC0 hC1).mono ?_;rintro e w' ⟨rfl,rfl⟩)
    go_roundw
    case rel=>exact⟨k+1,_,_,by omega,by go_num,rfl,hS0,hS,HS.out,HD3.out,hbn⟩
    case measure=>simp[intOf] <;> omega
  ·obtain rfl:k=n:=by omega
   have hdk:decide (k<k)=false:=by simp
   obtain⟨d,rfl⟩:=Int.eq_ofNat_of_zero_le hC0
   have HOh:=Lib.hid hO
   clear hO
   go_wp2
   go_ret
   exact⟨_,_,rfl,HOh.out.dig,less_end HA.out.len.symm (by have:=HB.out.len;omega) HOh.out.1 HOh.out.2.1 HAB.out HI.out,hbw⟩
end Go.Proofs.YtibaocbpeaejkaaGreat
