/- Runs whose results are told cell by cell. -/
import Derived.Test.YtkmbnldginonbaaGreatPo12
import Derived.Test.YtkmbnldginonbaaGreatPo8
import Derived.Test.YtkmbnldginonbaaGreatPo10
import Derived.Test.YtkmbnldginonbaaGreatPo9
import Derived.Test.YtkmbnldginonbaaGreatPo14
import Derived.Test.YtkmbnldginonbaaGreatPo1
import Derived.Test.YtkmbnldginonbaaGreatPo13
namespace Go.Proofs.YtkmbnldginonbaaGreat
open Go.RowKit
def U9 : Cell → Cell → Bool
 | .bool a,.bool b=>a == b
 | .int k a,.int l b=>decide (k=l)&&decide (a=b)
 | .nil,.nil=>true
 | .nil,.row _ n _=>n == 0
 | .row sz n f,.row sz' n' f'=>sz == sz'&&(n == n'&&((List.range n).all fun i=>(List.range sz).all fun j=>U9 (f i j) (f' i j)))
 | _,_=>false
theorem sameC_ok (a:Cell):∀(b:Cell),U9 a b=true->∀(D:Nat->Prop) (w:World) (v:Value),CRel D w [] a v->CRel D w [] b v:=by
 induction a with
 | bool a =>
  intro b h D w v hv;cases b with
  | bool b=>simp[U9]at h;subst h;exact hv
  | _=>simp[U9]at h
 | int k a =>
  intro b h D w v hv;cases b with
  | int l b=>simp[U9]at h;obtain⟨rfl,rfl⟩:=h;exact hv
  | _=>simp[U9]at h
 | nil =>
  intro b h D w v hv;cases b with
  | nil=>exact hv
  | row sz n f =>
   have h:n=0:=by simpa [U9] using h
   subst h;have hv:v = .slice none 0 0:=hv;exact⟨none,0,hv,Nat.le_refl _,fun h=>absurd h (Nat.lt_irrefl 0)⟩
  | _=>simp[U9]at h
 | row sz n f ih =>
  intro b h D w v hv;cases b with
  | row sz' n' f' =>
   simp only[U9,Bool.and_eq_true,beq_iff_eq,List.all_eq_true,List.mem_range]at h;obtain⟨rfl,rfl,h⟩:=h;obtain⟨A,c,e1,e2,e3⟩:=hv;refine⟨A,c,e1,e2,fun hn=>?_⟩;obtain⟨b,o,g1,g2,g3,g4⟩:=e3 hn;refine⟨b,o,g1,g2,g3,fun i j hi hj=>?_⟩;obtain⟨u,hu,hr⟩:=g4 i j hi hj;exact⟨u,hu,ih i j (f' i j) (h i hi j hj) D w u hr⟩
  | _=>simp[U9]at h
 | _=>intro b h;cases b <;> simp[U9]at h
def sameL : List Cell → List Cell → Bool
 | [],[]=>true
 | a :: l,b :: l'=>U9 a b&&sameL l l'
 | _,_=>false
def kw : V → V → Bool
 | .c a,.c b=>U9 a b
 | .g l,.g l'=>sameL l l'
 | .t2 a b,.t2 c d=>kw a c&&kw b d
 | _,_=>false
theorem sameL_ok : ∀ (l l' : List Cell), sameL l l' = true → ∀ (D : Nat → Prop) (w : World) (vs : List Value), CRels D w [] l vs → CRels D w [] l' vs
 | [],[],_,_,_,_,hv=>hv
 | a :: l,b :: l',h,D,w,v :: vs,hv=>by
  simp only[sameL,Bool.and_eq_true]at h;exact⟨sameC_ok a b h.1 D w v hv.1,sameL_ok l l' h.2 D w vs hv.2⟩
 | [],_ :: _,h,_,_,_,_=>by simp[sameL]at h
 | _ :: _,[],h,_,_,_,_=>by simp[sameL]at h
 | _ :: _,_ :: _,_,_,_,[],hv=>hv.elim
theorem sameV_ok : ∀ (a b : V), kw a b = true → ∀ (D : Nat → Prop) (w : World) (v : Value), VRel D w [] a v → VRel D w [] b v
 | .c a,.c b,h,D,w,v,hv=>sameC_ok a b h D w v hv
 | .g l,.g l',h,D,w,v,hv=>by
  obtain⟨vs,h1,h2⟩:=hv;exact⟨vs,h1,sameL_ok l l' h D w _ h2⟩
 | .t2 a b,.t2 c d,h,D,w,v,hv=>by
  simp only[kw,Bool.and_eq_true]at h;obtain⟨x,y,h1,h2,h3⟩:=hv;exact⟨x,y,h1,sameV_ok a c h.1 D w x h2,sameV_ok b d h.2 D w y h3⟩
 | .c _,.g _,h,_,_,_,_=>by simp[kw]at h
 | .c _,.t2 ..,h,_,_,_,_=>by simp[kw]at h
 | .c _,.t3 ..,h,_,_,_,_=>by simp[kw]at h
 | .c _,.t4 ..,h,_,_,_,_=>by simp[kw]at h
 | .g _,.c _,h,_,_,_,_=>by simp[kw]at h
 | .g _,.t2 ..,h,_,_,_,_=>by simp[kw]at h
 | .g _,.t3 ..,h,_,_,_,_=>by simp[kw]at h
 | .g _,.t4 ..,h,_,_,_,_=>by simp[kw]at h
 | .t2 ..,.c _,h,_,_,_,_=>by simp[kw]at h
 | .t2 ..,.g _,h,_,_,_,_=>by simp[kw]at h
 | .t2 ..,.t3 ..,h,_,_,_,_=>by simp[kw]at h
 | .t2 ..,.t4 ..,h,_,_,_,_=>by simp[kw]at h
 | .t3 ..,_,h,_,_,_,_=>by simp[kw]at h
 | .t4 ..,_,h,_,_,_,_=>by simp[kw]at h
 | .un,_,h,_,_,_,_=>by simp[kw]at h
 | .c _,.un,h,_,_,_,_=>by simp[kw]at h
 | .g _,.un,h,_,_,_,_=>by simp[kw]at h
 | .t2 ..,.un,h,_,_,_,_=>by simp[kw]at h
theorem jg {inl:FuncId->Bool} {f:FuncId} {args:List V} {Y:V} (h:(pureX orcC (runX ER orcC okF inl 1000 40) f args).map (fun X=>kw X Y)=some true):FnOK Tryz.prog false f args Y:=by
 cases hx:pureX orcC (runX ER orcC okF inl 1000 40) f args with
 | none=>rw[hx]at h;cases h
 | some X =>
  rw[hx]at h;have h:kw X Y=true:=by simpa using h
  have hf:=run_call orcC_ok hx;refine⟨hf.1,fun D w vs h1 h2 h3=>(hf.2 D w vs h1 h2 h3).mono ?_⟩;rintro e w' ⟨v,h4,h5,h6⟩;exact⟨v,h4,sameV_ok X Y h D w' v h5,h6⟩
end Go.Proofs.YtkmbnldginonbaaGreat
namespace Go.Proofs.YtkmbnldginonbaaGreat
def rsm : Nat → (Nat → Rat) → Rat
 | 0,_=>0
 | n+1,f=>rsm n f+f n
abbrev Mx:=Nat->Nat->Rat
def mmul (d:Nat) (a b:Mx):Mx:=fun i j=>rsm d fun k=>a i k*b k j
def madd (a b:Mx):Mx:=fun i j=>a i j+b i j
def mscale (c:Rat) (a:Mx):Mx:=fun i j=>c*a i j
def jk:Mx:=fun i j=>if i=j then 1 else 0
def horner (d : Nat) (a : Mx) : Nat → (Nat → Rat) → Mx
 | 0,_=>fun _ _=>0
 | n+1,f=>madd (mmul d (horner d a n fun i=>f (i+1)) a) (mscale (f 0) jk)
end Go.Proofs.YtkmbnldginonbaaGreat
/- Plain laws of the size of fractions: over a common denominator. -/
namespace Go.Proofs.YtkmbnldginonbaaGreat
def Fits (D N:Nat) (x:Rat):Prop:=∃ k:Int,x=zx k D/\k.natAbs<=N
theorem Fits.mono {D N N':Nat} {x:Rat} (h:Fits D N x) (hN:N<=N'):Fits D N' x:=by
 obtain⟨k,hk,hb⟩:=h;exact⟨k,hk,by omega⟩
theorem ratio_scale (a d:Int) {e:Int} (he:e≠0):zx (a*e) (d*e)=zx a d:=by
 rw[<- yV];have:zx e e=1:=by
  have g:=cast_ne he;unfold zx;generalize (e:Rat)=x at *;grind
 rw[this];grind
theorem Fits.scale {D N:Nat} {x:Rat} (h:Fits D N x) {e:Nat} (he:0<e):Fits (D*e) (N*e) x:=by
 obtain⟨a,rfl,ha⟩:=h;refine⟨a*e,?_,?_⟩
 ·rw[show((D*e:Nat):Int)=(D:Int)*(e:Int)by push_cast;rfl,ratio_scale _ _ (by omega)]
 ·rw[Int.natAbs_mul,Int.natAbs_natCast];exact Nat.mul_le_mul ha (Nat.le_refl _)
theorem Fits.small {D N:Nat} {x:Rat} (h:Fits D N x) (hD:0<D):x.num.natAbs<=N/\x.den<=D:=by
 obtain⟨a,rfl,ha⟩:=h;have:=ratio_small (n:=a) hD;omega
theorem Fits.of (x:Rat):Fits x.den x.num.natAbs x:=⟨x.num,(zw x).symm,Nat.le_refl _⟩
def dens : Nat → (Nat → Rat) → Nat
 | 0,_=>1
 | n+1,f=>dens n f*(f n).den
theorem dens_pos (n:Nat) (f:Nat->Rat):0<dens n f:=by
 induction n with
 | zero=>simp[dens]
 | succ n ih=>exact Nat.mul_pos ih (f n).den_pos
theorem dens_le {n C:Nat} {f:Nat->Rat} (h:∀ i,i<n->(f i).den<=C):dens n f<=C^n:=by
 induction n with
 | zero=>simp[dens]
 | succ n ih=>rw[Nat.pow_succ];exact Nat.mul_le_mul (ih fun i hi=>h i (by omega)) (h n (by omega))
theorem fits_dens {n C:Nat} {f:Nat->Rat} (h:∀ i,i<n->(f i).num.natAbs<=C/\(f i).den<=C):∀ i,i<n->Fits (dens n f) (C^n) (f i):=by
 induction n with
 | zero=>intro i hi;omega
 | succ n ih =>
  intro i hi;rw[Nat.pow_succ];by_cases e:i=n
  ·subst e;have h1:=Fits.of (f i);have h2:=h1.scale (e:=dens i f) (dens_pos i f);rw[show dens (i+1) f=(f i).den*dens i f from Nat.mul_comm _ _];refine h2.mono ?_;rw[Nat.mul_comm];exact Nat.mul_le_mul (dens_le fun j hj=>(h j (by omega)).2) (h i (by omega)).1
  ·have h1:=ih (fun j hj=>h j (by omega)) i (by omega);exact(h1.scale (f n).den_pos).mono (Nat.mul_le_mul (Nat.le_refl _) (h n (by omega)).2)
end Go.Proofs.YtkmbnldginonbaaGreat
set_option maxHeartbeats 8000000
namespace Go.Proofs.YtkmbnldginonbaaGreat
open Go.RowKit
def inlDoc (f:FuncId):Bool:=[64].contains f
def Vv (f:FuncId):Bool:=[119,109,151,108].contains f
theorem ident0:FnOK Tryz.prog false 77 [.c (.int .i64 (0:Nat))] (.t2 (.g (zj 0 0 jk)) (.c (.int .i64 0))):=jg (inl:=Vv) (by kernel_rfl)
theorem ident1:FnOK Tryz.prog false 77 [.c (.int .i64 (1:Nat))] (.t2 (.g (zj 1 1 jk)) (.c (.int .i64 0))):=jg (inl:=Vv) (by kernel_rfl)
theorem ident2:FnOK Tryz.prog false 77 [.c (.int .i64 (2:Nat))] (.t2 (.g (zj 2 2 jk)) (.c (.int .i64 0))):=jg (inl:=Vv) (by kernel_rfl)
theorem ident3:FnOK Tryz.prog false 77 [.c (.int .i64 (3:Nat))] (.t2 (.g (zj 3 3 jk)) (.c (.int .i64 0))):=jg (inl:=Vv) (by kernel_rfl)
theorem ident4:FnOK Tryz.prog false 77 [.c (.int .i64 (4:Nat))] (.t2 (.g (zj 4 4 jk)) (.c (.int .i64 0))):=jg (inl:=Vv) (by kernel_rfl)
theorem ident5:FnOK Tryz.prog false 77 [.c (.int .i64 (5:Nat))] (.t2 (.g (zj 5 5 jk)) (.c (.int .i64 0))):=jg (inl:=Vv) (by kernel_rfl)
theorem ident6:FnOK Tryz.prog false 77 [.c (.int .i64 (6:Nat))] (.t2 (.g (zj 6 6 jk)) (.c (.int .i64 0))):=jg (inl:=Vv) (by kernel_rfl)
theorem identity_ok : ∀ {n : Nat}, n ≤ 6 → FnOK Tryz.prog true 77 [.c (.int .i64 n)] (.t2 (.g (zj n n jk)) (.c (.int .i64 0)))
 | 0,_=>ident0.weak
 | 1,_=>ident1.weak
 | 2,_=>ident2.weak
 | 3,_=>ident3.weak
 | 4,_=>ident4.weak
 | 5,_=>ident5.weak
 | 6,_=>ident6.weak
theorem rident0:FnOK Tryz.prog false 74 [.c (.int .i64 (0:Nat))] (.g (zj 0 0 jk)):=jg (inl:=inlDoc) (by kernel_rfl)
theorem rident1:FnOK Tryz.prog false 74 [.c (.int .i64 (1:Nat))] (.g (zj 1 1 jk)):=jg (inl:=inlDoc) (by kernel_rfl)
theorem rident2:FnOK Tryz.prog false 74 [.c (.int .i64 (2:Nat))] (.g (zj 2 2 jk)):=jg (inl:=inlDoc) (by kernel_rfl)
theorem rident3:FnOK Tryz.prog false 74 [.c (.int .i64 (3:Nat))] (.g (zj 3 3 jk)):=jg (inl:=inlDoc) (by kernel_rfl)
theorem rident4:FnOK Tryz.prog false 74 [.c (.int .i64 (4:Nat))] (.g (zj 4 4 jk)):=jg (inl:=inlDoc) (by kernel_rfl)
theorem rident5:FnOK Tryz.prog false 74 [.c (.int .i64 (5:Nat))] (.g (zj 5 5 jk)):=jg (inl:=inlDoc) (by kernel_rfl)
theorem rident6:FnOK Tryz.prog false 74 [.c (.int .i64 (6:Nat))] (.g (zj 6 6 jk)):=jg (inl:=inlDoc) (by kernel_rfl)
theorem ridentity_ok : ∀ {n : Nat}, n ≤ 6 → FnOK Tryz.prog false 74 [.c (.int .i64 n)] (.g (zj n n jk))
 | 0,_=>rident0
 | 1,_=>rident1
 | 2,_=>rident2
 | 3,_=>rident3
 | 4,_=>rident4
 | 5,_=>rident5
 | 6,_=>rident6
namespace Rf
theorem raddm_ok {n m:Nat} {A B:Nat->Nat->Rat} {c:Rat} (hn:n<=64) (hm:m<=64) (hA:∀ i j,i<n->j<m->qlen (A i j)<=65535) (hB:∀ i j,i<n->j<m->qlen (B i j)<=65535) (hc:qlen c<=65535) (hS:∀ i j,i<n->j<m->qlen (A i j+c*B i j)<=524286):FnOK Tryz.prog false 75 [.g (zj n m A),.g (nq c),.g (zj n m B)] (.g (zj n m fun i j=>A i j+c*B i j)):=by
 have r1:=rows_ok (n:=n) (m:=m) (G:=A) hn hm fun i j a b=>by have:=hA i j a b;omega
 have r2:=rows_ok (n:=n) (m:=m) (G:=B) hn hm fun i j a b=>by have:=hB i j a b;omega
 have c0:∀ i,i<n->FnOK Tryz.prog false 63 [.c (nql m (A i)),.g (nq c),.c (nql m (B i))] (.c (nql m fun j=>A i j+c*B i j)):=fun i hi=>rcomb_ok (by omega) (fun j hj=>hA i j hi hj) (fun j hj=>hB i j hi hj) hc;have o0:=rof_mat (n:=n) (m:=m) (G:=fun i j=>A i j+c*B i j) hn hm hS;clear hA hB hS hc;obtain⟨Z,hZ⟩:∃ Z:Nat->Nat->Rat,Z=fun i j=>A i j+c*B i j:=⟨_,rfl⟩;have c0:∀ i,i<n->FnOK Tryz.prog false 63 [.c (nql m (A i)),.g (nq c),.c (nql m (B i))] (.c (nql m (Z i))):=by rw[hZ];exact c0
 rw[<- hZ]at o0 ⊢
 clear hZ;have o1:∀ i,i=n->FnOK Tryz.prog false 57 [.c (.int .i64 m),.c (.row 1 i fun a _=>nql m (Z a))] (.g (zj n m Z)):=fun i e=>by rw[e];exact o0
 refine qV (E:=E0) qw Tryz.func75 rfl mixed (by kernel_rfl) (by kernel_rfl) ?_;conv=>whnf
 refine⟨_,r1,?_⟩;conv=>whnf
 refine⟨_,r2,?_⟩;conv=>whnf
 refine qK (fun i:Nat=>gst [(3,.c (.p 0 0 3 0 0)),(4,.c (.p 1 0 4 0 0)),(6,.c (.p 2 0 3 0 0)),(7,.c (vb n m A)),(8,.c (vb n m B)),(9,.c (.gs 3 0)),(10,.c (.int .i64 i))] [⟨24,3,1,qk (zj n m A)⟩,⟨38,4,1,qk (nq c)⟩,⟨24,3,1,qk [.int .i64 0,.int .i64 0,.nil]⟩,⟨22,1,i,fun a _=>nql m (Z a)⟩]) (fun i=>n-i) (fun i=>i<=n) 0 rfl (Weak.gen [some 0,some 1,some 3,none] rfl ⟨boxK rfl rfl,boxK rfl rfl,boxK rfl rfl,rfl,trivial⟩ ⟨⟨_,rfl,rfl,rfl⟩,⟨_,rfl,rfl,rfl⟩,⟨_,rfl,rfl,rfl⟩,rO rfl,rO rfl,rfl,⟨_,rfl,rfl⟩,trivial⟩) (Nat.zero_le _) fun i hi=>?_;have c0:=c0 i;have o1:=o1 i;conv=>whnf
 refine qg (fun(h:decide ((i:Int)<n)=true)=>?_) fun(h:decide ((i:Int)<n)=false)=>?_
 ·have h:=of_decide_eq_true h;have c0:=c0 (by omega);conv=>whnf
  refine⟨by omega,by omega,?_⟩;conv=>whnf
  refine⟨by omega,by omega,?_⟩;conv=>whnf
  refine⟨_,c0,?_⟩;conv=>whnf
  refine .inr ⟨rfl,?_⟩;conv=>whnf
  refine⟨by show i+1<=16777216;omega,fun a b ha hb=>?_,?_⟩
  ·match a,b,ha,hb with
   | 0,0,_,_=>exact⟨rfl,fun h=>by cases h⟩
  conv=>whnf
  refine⟨i64 (by omega) (by omega),?_⟩;conv=>whnf
  exact⟨i+1,by omega,Weak.gen [some 0,some 1,some 2,some 3] rfl ⟨boxK rfl rfl,boxK rfl rfl,boxK rfl rfl,⟨_,rfl,rfl,rfl,rfl,rfl,fun a b ha hb=>regApp (t:=fun a=>nql m (Z a)) ha hb (fun _=>qY rfl rfl) (qY rfl rfl)⟩,trivial⟩ ⟨⟨_,rfl,rfl,rfl⟩,⟨_,rfl,rfl,rfl⟩,⟨_,rfl,rfl,rfl⟩,rO rfl,rO rfl,⟨_,rfl,rfl,rfl⟩,⟨_,rfl,rfl⟩,trivial⟩,by omega⟩
 ·have h:=of_decide_eq_false h;have o1:=o1 (by omega);conv=>whnf
  refine⟨fun _ _ _ _=>rfl,?_⟩;conv=>whnf
  refine⟨_,o1,?_⟩;conv=>whnf
  exact⟨rfl,Sub.refl _⟩
end Rf
end Go.Proofs.YtkmbnldginonbaaGreat
/- A polynomial at a matrix, in the program and in the document. -/
namespace Go.Proofs.YtkmbnldginonbaaGreat
open Go.RowKit
namespace Rf
structure Hor (n T : Nat) (F : Nat → Rat) (A : Nat → Nat → Rat) (H : Nat → Nat → Nat → Rat) : Prop where
 zero:H 0=fun _ _=>0
 step:∀ t i j,t<T->H (t+1) i j=xY (H t i) A n j+F (T-1-t)*jk i j
theorem mone_mul_len {x:Rat} {L:Nat} (h:qlen x<=L) (i j:Nat):qlen (x*jk i j)<=L:=by
 unfold jk;split
 ·rw[Rat.mul_one];exact h
 ·rw[Rat.mul_zero];have:qlen 0<=qlen x:=by
   have h0:qlen 0=1:=by decide
   have h1:1<=qlen x:=by
    have h2:qB (x.den:Int)<=qlen x:=Nat.le_max_right _ _;have h3:qB (x.den:Int)≠0:=fun e=>by
     have:=jG.1 e;have:=x.den_pos;omega
    omega
   omega
  omega
theorem fit_mat {n m L:Nat} {G:Nat->Nat->Rat} (h:∀ i j,i<n->j<m->qlen (G i j)<=L) (k:Nat) (hk:k<n*m):(ofR (G (k / m) (k%m))).Fit L:=by
 have h0:0<m:=Nat.pos_of_ne_zero fun e=>by rw[e,Nat.mul_zero]at hk;omega
 exact zX (h _ _ (Nat.div_lt_of_lt_mul (by rw[Nat.mul_comm];exact hk)) (Nat.mod_lt _ h0))
theorem mat_lt {n m k:Nat} (hk:k<n*m):k / m<n/\k%m<m:=by
 have h0:0<m:=Nat.pos_of_ne_zero fun e=>by rw[e,Nat.mul_zero]at hk;omega
 exact⟨Nat.div_lt_of_lt_mul (by rw[Nat.mul_comm];exact hk),Nat.mod_lt _ h0⟩
theorem at_ok {n N T : Nat} {q p : Nat → RawR} {F : Nat → Rat} {A : Nat → Nat → Rat} {H : Nat → Nat → Nat → Rat} (hn : n ≤ 6) (hN : N ≤ 1024) (hqF : (fun i => (q i).val) = F) (hT : Q.tq F N = T) (hT64 : T ≤ 65) (hq : ∀ i, i < N → (q i).Fit KD) (hp : ∀ a, a < n * n → (p a).Fit KD) (hpv : ∀ i j, i < n → j < n → (p (i * n + j)).val = A i j) (hA : ∀ i j, i < n → j < n → qlen (A i j) ≤ KD) (hF : ∀ i, i < T → qlen (F i) ≤ KD)
  (hH:∀ t i j,t<=T->i<n->j<n->qlen (H t i j)<=KD) (hS:∀ t r i j,t<T->r<n->i<=n->j<n->qlen (xY (H t r) A i j)<=KD) (hor:Hor n T F A H):FnOK Tryz.prog true 27 [.c (ql N q),.g (qG n n p)] (.t2 (.g (zj n n (H T))) (.c (.int .i64 0))):=by
 have k0:FnOK Tryz.prog true 38 [.g (qG n n p)] (.c (.int .i64 0)):=by
  have h:=check_ok (r:=n) (c:=n) (len:=n*n) (f:=qlF p);rwa [show jW (n:Int) n ((n*n:Nat):Int)=0 by
   unfold jW;rw[if_pos ⟨⟨⟨by omega,by omega⟩,⟨by omega,by omega⟩,by rw[Int.natCast_mul]⟩,rfl⟩,if_neg (by omega)]]at h
 have q0:=qnorm_ok (n:=N) hqF (by omega) hq (by decide);rw[hT]at q0;have n0:FnOK Tryz.prog true 58 [.c (.int .i64 n),.c (.int .i64 n)] (.t2 (.g (zj n n (H 0))) (.c (.int .i64 0))):=by
  rw[hor.zero];exact new_ok (by omega) (by omega)
 have i0:=identity_ok hn;have m0':∀ t,t<T->FnOK Tryz.prog true 78 [.g (zj n n (H t)),.g (qG n n p)] (.t2 (.g (zj n n fun r=>xY (H t r) A n)) (.c (.int .i64 0))):=fun t ht =>
  mulR_ok (q:=fun k=>ofR (H t (k / n) (k%n))) (by omega) (by omega) (by omega) (fit_mat fun i j hi hj=>hH t i j (by omega) hi hj) (Xq (n:=n)) hp hpv (fun i j hi hj=>hH t i j (by omega) hi hj) hA fun r i j hr hi hj=>hS t r i j ht hr hi hj
 have s0':∀ t,t<T->FnOK Tryz.prog true 79 [.g (zj n n jk),.g (nq (F ((T:Int)-1-(t:Int)).toNat))] (.t2 (.g (zj n n fun i j=>F (T-1-t)*jk i j)) (.c (.int .i64 0))):=fun t ht=>by
  rw[show((T:Int)-1-(t:Int)).toNat=T-1-t by omega];exact scaleR_ok (q:=fun k=>ofR (jk (k / n) (k%n))) (x:=ofR (F (T-1-t))) (z:=fun k=>F (T-1-t)*jk (k / n) (k%n)) (L:=KD) (by omega) (by omega) (fit_mat fun i j _ _=>by
   have:=mone_mul_len (x:=1) (L:=1) (by decide) i j;rw[Rat.one_mul]at this;exact Nat.le_trans this (by decide)) (zX (hF _ (by omega))) (by decide) fun a _=>by rw[qP,qP]
 have a0':∀ t,t<T->FnOK Tryz.prog true 80 [.g (zj n n fun r=>xY (H t r) A n),.g (zj n n fun i j=>F (T-1-t)*jk i j)] (.t2 (.g (zj n n (H (t+1)))) (.c (.int .i64 0))):=fun t ht =>
  addR_ok (q:=fun k=>ofR (xY (H t (k / n)) A n (k%n))) (p:=fun k=>ofR (F (T-1-t)*jk (k / n) (k%n))) (z:=fun k=>H (t+1) (k / n) (k%n)) (L:=KD) (by omega) (by omega) (fit_mat (G:=fun r=>xY (H t r) A n) fun i j hi hj=>hS t i n j ht hi (Nat.le_refl _) hj) (fit_mat (G:=fun i j=>F (T-1-t)*jk i j) fun i j _ _=>mone_mul_len (hF _ (by omega)) i j) (by decide) fun a _=>by rw[qP,qP,hor.step t _ _ ht]
 clear hqF hT hq hp hpv hA hF hH hS hor;obtain⟨P,hP⟩:∃ P:Nat->Nat->Nat->Rat,P=fun t r=>xY (H t r) A n:=⟨_,rfl⟩;obtain⟨Z,hZ⟩:∃ Z:Nat->Nat->Nat->Rat,Z=fun t i j=>F (T-1-t)*jk i j:=⟨_,rfl⟩;have m0:∀ t,t<T->FnOK Tryz.prog true 78 [.g (zj n n (H t)),.g (qG n n p)] (.t2 (.g (zj n n (P t))) (.c (.int .i64 0))):=by rw[hP];exact m0'
 have s0:∀ t,t<T->FnOK Tryz.prog true 79 [.g (zj n n jk),.g (nq (F ((T:Int)-1-(t:Int)).toNat))] (.t2 (.g (zj n n (Z t))) (.c (.int .i64 0))):=by rw[hZ];exact s0'
 have a0:∀ t,t<T->FnOK Tryz.prog true 80 [.g (zj n n (P t)),.g (zj n n (Z t))] (.t2 (.g (zj n n (H (t+1)))) (.c (.int .i64 0))):=by rw[hP,hZ];exact a0'
 clear hP hZ m0' s0' a0';generalize jk=U at *;refine qV (E:=E1) qQ Tryz.func27 rfl mixed (by kernel_rfl) (by kernel_rfl) ?_;conv=>whnf
 refine⟨_,k0,?_⟩;conv=>whnf
 refine .inr ⟨_,q0,?_⟩;conv=>whnf
 refine⟨i64 (by omega) (by omega),?_⟩;conv=>whnf
 refine jj (show decide ((64:Int)<(T:Int)-1)=false from decide_eq_false (by omega)) ?_;conv=>whnf
 refine⟨_,n0,?_⟩;conv=>whnf
 refine⟨_,i0,?_⟩;conv=>whnf
 refine⟨i64 (by omega) (by omega),?_⟩;conv=>whnf
 refine qK (fun t:Nat=>gst [(0,.c (nql T F)),(3,.c (.p 0 0 3 0 0)),(4,.c (.p 1 0 3 0 0)),(7,.c (.p 2 0 3 0 0)),(9,.c (.p 3 0 3 0 0)),(11,.c (.int .i64 ((T:Int)-1-(t:Int))))] [⟨24,3,1,qk (qG n n p)⟩,⟨24,3,1,qk [.int .i64 0,.int .i64 0,.nil]⟩,⟨24,3,1,qk (zj n n (H t))⟩,⟨24,3,1,qk (zj n n U)⟩]) (fun t=>T-t) (fun t=>t<=T) 0 rfl (Weak.gen [some 0,some 1,some 2,some 3] rfl ⟨boxK rfl rfl,boxK rfl rfl,boxU rfl rfl rfl,boxU rfl rfl rfl,trivial⟩ ⟨rO rfl,⟨_,rfl,rfl,rfl⟩,⟨_,rfl,rfl,rfl⟩,⟨_,rfl,rfl,rfl⟩,⟨_,rfl,rfl,rfl⟩,⟨_,rfl,by omega⟩,trivial⟩) (Nat.zero_le _) fun t ht=>?_;have m0:=m0 t;have s0:=s0 t;have a0:=a0 t;conv=>whnf
 refine qg (fun(h:decide ((0:Int)<=(T:Int)-1-(t:Int))=true)=>?_) fun(h:decide ((0:Int)<=(T:Int)-1-(t:Int))=false)=>?_
 ·have h:=of_decide_eq_true h;have m0:=m0 (by omega);have s0:=s0 (by omega);have a0:=a0 (by omega);conv=>whnf
  refine⟨_,m0,?_⟩;conv=>whnf
  refine⟨by omega,by show(T:Int)-1-(t:Int)<(T:Int);omega,?_⟩;conv=>whnf
  refine⟨_,s0,?_⟩;conv=>whnf
  refine⟨_,a0,?_⟩;conv=>whnf
  refine⟨i64 (by omega) (by omega),?_⟩;conv=>whnf
  exact⟨t+1,by omega,Weak.gen [some 0,some 1,some 2,some 3] rfl ⟨boxK rfl rfl,boxK rfl rfl,boxU rfl rfl rfl,boxK rfl rfl,trivial⟩ ⟨rO rfl,⟨_,rfl,rfl,rfl⟩,⟨_,rfl,rfl,rfl⟩,⟨_,rfl,rfl,rfl⟩,⟨_,rfl,rfl,rfl⟩,⟨_,rfl,by omega⟩,trivial⟩,by omega⟩
 ·have h:=of_decide_eq_false h;have e:t=T:=by omega
  have g:Sub (.t2 (.g (zj n n (H t))) (.c (.int .i64 0))) (.t2 (.g (zj n n (H T))) (.c (.int .i64 0))):=by rw[e];exact Sub.refl _
  conv=>whnf
  exact⟨rfl,g⟩
end Rf
end Go.Proofs.YtkmbnldginonbaaGreat
/- The law's tests of matrices and lists of fractions. -/
namespace Go.Proofs.YtkmbnldginonbaaGreat
open Go.RowKit
namespace Rf
def okm (r c:Int) (len:Nat):Prop:=0<=r/\r<=1024/\0<=c/\c<=1024/\(len:Int)=r*c
instance (r c:Int) (len:Nat):Decidable (okm r c len):=by unfold okm;infer_instance
theorem okm_range {r c:Int} (h1:0<=r) (h2:r<=1024) (h3:0<=c) (h4:c<=1024):inR .i64 (r*c):=by
 have h5:r*c<=1024*1024:=Int.mul_le_mul h2 h4 h3 (by omega);have h6:=Int.mul_nonneg h1 h3;exact i64 (by omega) (by omega)
theorem rvalid_ok {r c:Int} {len:Nat} {f:Nat->Nat->Cell}:FnOK Tryz.prog true 37 [.g [.int .i64 r,.int .i64 c,.row 4 len f]] (.c (.bool (decide (okm r c len)))):=by
 refine qV (E:=E1) qQ Tryz.func37 rfl mixed (by kernel_rfl) (by kernel_rfl) ?_;conv=>whnf
 refine qg (fun(h1:decide (0<=r)=true)=>?_) fun(h1:decide (0<=r)=false)=>?_
 ·have h1:=of_decide_eq_true h1;conv=>whnf
  refine qg (fun(h2:decide (r<=1024)=true)=>?_) fun(h2:decide (r<=1024)=false)=>?_
  ·have h2:=of_decide_eq_true h2;conv=>whnf
   refine qg (fun(h3:decide (0<=c)=true)=>?_) fun(h3:decide (0<=c)=false)=>?_
   ·have h3:=of_decide_eq_true h3;conv=>whnf
    refine qg (fun(h4:decide (c<=1024)=true)=>?_) fun(h4:decide (c<=1024)=false)=>?_
    ·have h4:=of_decide_eq_true h4;conv=>whnf
     refine⟨okm_range h1 h2 h3 h4,?_⟩;conv=>whnf
     refine⟨rfl,z7 ?_⟩;show decide ((len:Int)=r*c)=_;simp[okm,h1,h2,h3,h4]
    ·have h4:=of_decide_eq_false h4;conv=>whnf
     refine⟨rfl,z7 ?_⟩;show false=_;simp[okm,h4]
   ·have h3:=of_decide_eq_false h3;conv=>whnf
    refine⟨rfl,z7 ?_⟩;show false=_;simp[okm,h3]
  ·have h2:=of_decide_eq_false h2;conv=>whnf
   refine⟨rfl,z7 ?_⟩;show false=_;simp[okm,h2]
 ·have h1:=of_decide_eq_false h1;conv=>whnf
  refine⟨rfl,z7 ?_⟩;show false=_;simp[okm,h1]
def shq (n:Nat) (q:Nat->RawR):Prop:=∀ i,i<n->(q i).num.ds.length<=1/\(q i).den.ds.length<=1
theorem short11_ok {n:Nat} {q:Nat->RawR} {r:Bool} (hn:n<=9223372036854775807) (hr:r=true↔shq n q):FnOK Tryz.prog true 15 [.c (ql n q)] (.c (.bool r)):=by
 have r1:∀ i,i<n->¬(q i).num.ds.length<=1->false=r:=fun i hi a=>(Bool.eq_false_iff.2 fun e=>a (hr.1 e i hi).1).symm;have r2:∀ i,i<n->¬(q i).den.ds.length<=1->false=r:=fun i hi a=>(Bool.eq_false_iff.2 fun e=>a (hr.1 e i hi).2).symm;have r3:shq n q->true=r:=fun a=>(hr.2 a).symm;clear hr;refine qV (E:=E1) qQ Tryz.func15 rfl mixed (by kernel_rfl) (by kernel_rfl) ?_;conv=>whnf
 refine qK (fun i:Nat=>gst [(0,.c (ql n q)),(3,.c (.int .i64 i))] []) (fun i=>n-i) (fun i=>i<=n/\∀ j,j<i->(q j).num.ds.length<=1/\(q j).den.ds.length<=1) 0 rfl (Weak.gen [] rfl trivial ⟨rO rfl,⟨_,rfl,rfl⟩,trivial⟩) ⟨Nat.zero_le _,fun j h=>absurd h (Nat.not_lt_zero j)⟩ fun i ⟨hi,hh⟩=>?_;have r1:=r1 i;have r2:=r2 i;conv=>whnf
 refine qg (fun(h:decide ((i:Int)<n)=true)=>?_) fun(h:decide ((i:Int)<n)=false)=>?_
 ·have h:=of_decide_eq_true h;have r1:=r1 (by omega);have r2:=r2 (by omega);conv=>whnf
  refine⟨by omega,by omega,?_⟩;conv=>whnf
  refine qg (fun(a1:gw false (decide ((1:Int)<(q i).num.ds.length))=true)=>?_) fun(a1:gw false (decide ((1:Int)<(q i).num.ds.length))=false)=>?_
  ·have a1:=of_decide_eq_false (gwf a1);conv=>whnf
   refine⟨by omega,by omega,?_⟩;conv=>whnf
   refine qg (fun(a2:decide ((1:Int)<(q i).den.ds.length)=true)=>?_) fun(a2:decide ((1:Int)<(q i).den.ds.length)=false)=>?_
   ·have a2:=of_decide_eq_true a2;have g:=r2 (by omega);conv=>whnf
    exact⟨rfl,z7 g⟩
   ·have a2:=of_decide_eq_false a2;conv=>whnf
    refine⟨i64 (by omega) (by omega),?_⟩;conv=>whnf
    refine⟨i+1,by omega,Weak.gen [] rfl trivial ⟨rO rfl,⟨_,rfl,rfl⟩,trivial⟩,by omega,fun j hj=>?_⟩;by_cases e:j=i
    ·rw[e];exact⟨by omega,by omega⟩
    ·exact hh j (by omega)
  ·have a1:=of_decide_eq_true (gwf' a1);have g:=r1 (by omega);conv=>whnf
   exact⟨rfl,z7 g⟩
 ·have h:=of_decide_eq_false h;have g:=r3 fun j hj=>hh j (by omega);conv=>whnf
  exact⟨rfl,z7 g⟩
noncomputable def E1v:Env:=⟨Tryz.prog,true,fun T=>if T == 70 then some ⟨false,1,[.nil],24,[],some 24,none,0⟩else tyE T,0⟩
theorem tyV:yf Tryz.prog 70=some ⟨false,1,[.nil],24,[],some 24,none,0⟩:=by kernel_rfl
theorem zz:EnvOK E1v:=⟨fun T ti h=>by
 by_cases e:T=70
 ·subst e;have h:some (⟨false,1,[.nil],24,[],some 24,none,0⟩:TI)=some ti:=h;cases h;exact tyV
 ·have h2:(if T == 70 then some (⟨false,1,[.nil],24,[],some 24,none,0⟩:TI)else tyE T)=some ti:=h;rw[if_neg (by simpa using e)]at h2;exact tyE_ok T ti h2⟩
def lite11 (m:Int) (r c:Int) (len:Nat) (q:Nat->RawR):Prop:=okm r c len/\r=c/\r<=m/\shq len q
abbrev oneM (r c:Int) (len:Nat) (q:Nat->RawR):V := .c (.row 3 1 (xJ 3 [.int .i64 r,.int .i64 c,ql len q]))
theorem light11_a {m r c:Int} {len:Nat} {q:Nat->RawR} (v0:FnOK Tryz.prog true 37 [.g [.int .i64 r,.int .i64 c,ql len q]] (.c (.bool false))):FnOK Tryz.prog true 9 [.c (.int .i64 m),oneM r c len q] (.c (.bool false)):=by
 refine jy (E:=E1v) zz Tryz.func9 rfl (by kernel_rfl) ?_;refine qf zz mixed (by kernel_rfl) ?_;conv=>whnf
 refine jq ?_;refine qf zz mixed (by kernel_rfl) ?_;conv=>whnf
 refine qq ?_;refine qZ (fun i:Nat=>gst [(0,.c (.int .i64 m)),(1,oneM r c len q),(5,.c (.int .i64 i))] []) (fun i=>1-i) (fun i=>i<=0) 0 (Weak.gen [] rfl trivial ⟨⟨_,rfl,rfl⟩,rO rfl,⟨_,rfl,rfl⟩,trivial⟩) (Nat.zero_le _) fun i hi=>?_;match i,hi with
 | 0,_ =>
  refine qf zz mixed (by kernel_rfl) ?_;conv=>whnf
  refine jq (qq ?_);refine qf zz mixed (by kernel_rfl) ?_;conv=>whnf
  refine⟨by decide,by decide,?_⟩;conv=>whnf
  refine⟨_,v0,?_⟩;conv=>whnf
  refine qJ zz mixed (by kernel_rfl) ?_;conv=>whnf
  exact⟨rfl,Sub.refl _⟩
theorem light11_b {m r c:Int} {len:Nat} {q:Nat->RawR} (v0:FnOK Tryz.prog true 37 [.g [.int .i64 r,.int .i64 c,ql len q]] (.c (.bool true))) (h2:r≠c):FnOK Tryz.prog true 9 [.c (.int .i64 m),oneM r c len q] (.c (.bool false)):=by
 refine jy (E:=E1v) zz Tryz.func9 rfl (by kernel_rfl) ?_;refine qf zz mixed (by kernel_rfl) ?_;conv=>whnf
 refine jq ?_;refine qf zz mixed (by kernel_rfl) ?_;conv=>whnf
 refine qq ?_;refine qZ (fun i:Nat=>gst [(0,.c (.int .i64 m)),(1,oneM r c len q),(5,.c (.int .i64 i))] []) (fun i=>1-i) (fun i=>i<=0) 0 (Weak.gen [] rfl trivial ⟨⟨_,rfl,rfl⟩,rO rfl,⟨_,rfl,rfl⟩,trivial⟩) (Nat.zero_le _) fun i hi=>?_;match i,hi with
 | 0,_ =>
  refine qf zz mixed (by kernel_rfl) ?_;conv=>whnf
  refine jq (qq ?_);refine qf zz mixed (by kernel_rfl) ?_;conv=>whnf
  refine⟨by decide,by decide,?_⟩;conv=>whnf
  refine⟨_,v0,?_⟩;conv=>whnf
  refine⟨by decide,by decide,?_⟩;conv=>whnf
  refine⟨by decide,by decide,?_⟩;conv=>whnf
  refine jj (jv.2 (show(!decide (r=c))=true by simp[h2])) ?_;conv=>whnf
  refine qJ zz mixed (by kernel_rfl) ?_;conv=>whnf
  exact⟨rfl,Sub.refl _⟩
theorem light11_c {m r c:Int} {len:Nat} {q:Nat->RawR} (v0:FnOK Tryz.prog true 37 [.g [.int .i64 r,.int .i64 c,ql len q]] (.c (.bool true))) (h2:r=c) (h3:m<r):FnOK Tryz.prog true 9 [.c (.int .i64 m),oneM r c len q] (.c (.bool false)):=by
 refine jy (E:=E1v) zz Tryz.func9 rfl (by kernel_rfl) ?_;refine qf zz mixed (by kernel_rfl) ?_;conv=>whnf
 refine jq ?_;refine qf zz mixed (by kernel_rfl) ?_;conv=>whnf
 refine qq ?_;refine qZ (fun i:Nat=>gst [(0,.c (.int .i64 m)),(1,oneM r c len q),(5,.c (.int .i64 i))] []) (fun i=>1-i) (fun i=>i<=0) 0 (Weak.gen [] rfl trivial ⟨⟨_,rfl,rfl⟩,rO rfl,⟨_,rfl,rfl⟩,trivial⟩) (Nat.zero_le _) fun i hi=>?_;match i,hi with
 | 0,_ =>
  refine qf zz mixed (by kernel_rfl) ?_;conv=>whnf
  refine jq (qq ?_);refine qf zz mixed (by kernel_rfl) ?_;conv=>whnf
  refine⟨by decide,by decide,?_⟩;conv=>whnf
  refine⟨_,v0,?_⟩;conv=>whnf
  refine⟨by decide,by decide,?_⟩;conv=>whnf
  refine⟨by decide,by decide,?_⟩;conv=>whnf
  refine xG (xK.2 (show(!decide (r=c))=false by simp[h2])) ?_;conv=>whnf
  refine⟨by decide,by decide,?_⟩;conv=>whnf
  refine jj (jv.2 (show decide (m<r)=true from decide_eq_true h3)) ?_;conv=>whnf
  refine qJ zz mixed (by kernel_rfl) ?_;conv=>whnf
  exact⟨rfl,Sub.refl _⟩
theorem light11_d {m r c:Int} {len:Nat} {q:Nat->RawR} (v0:FnOK Tryz.prog true 37 [.g [.int .i64 r,.int .i64 c,ql len q]] (.c (.bool true))) (s0:FnOK Tryz.prog true 15 [.c (ql len q)] (.c (.bool false))) (h2:r=c) (h3:r<=m):FnOK Tryz.prog true 9 [.c (.int .i64 m),oneM r c len q] (.c (.bool false)):=by
 refine jy (E:=E1v) zz Tryz.func9 rfl (by kernel_rfl) ?_;refine qf zz mixed (by kernel_rfl) ?_;conv=>whnf
 refine jq ?_;refine qf zz mixed (by kernel_rfl) ?_;conv=>whnf
 refine qq ?_;refine qZ (fun i:Nat=>gst [(0,.c (.int .i64 m)),(1,oneM r c len q),(5,.c (.int .i64 i))] []) (fun i=>1-i) (fun i=>i<=0) 0 (Weak.gen [] rfl trivial ⟨⟨_,rfl,rfl⟩,rO rfl,⟨_,rfl,rfl⟩,trivial⟩) (Nat.zero_le _) fun i hi=>?_;match i,hi with
 | 0,_ =>
  refine qf zz mixed (by kernel_rfl) ?_;conv=>whnf
  refine jq (qq ?_);refine qf zz mixed (by kernel_rfl) ?_;conv=>whnf
  refine⟨by decide,by decide,?_⟩;conv=>whnf
  refine⟨_,v0,?_⟩;conv=>whnf
  refine⟨by decide,by decide,?_⟩;conv=>whnf
  refine⟨by decide,by decide,?_⟩;conv=>whnf
  refine xG (xK.2 (show(!decide (r=c))=false by simp[h2])) ?_;conv=>whnf
  refine⟨by decide,by decide,?_⟩;conv=>whnf
  refine xG (xK.2 (show decide (m<r)=false from decide_eq_false (by omega))) ?_;conv=>whnf
  refine⟨by decide,by decide,?_⟩;conv=>whnf
  refine⟨_,s0,?_⟩;conv=>whnf
  refine qJ zz mixed (by kernel_rfl) ?_;conv=>whnf
  exact⟨rfl,Sub.refl _⟩
theorem light11_e {m r c:Int} {len:Nat} {q:Nat->RawR} (v0:FnOK Tryz.prog true 37 [.g [.int .i64 r,.int .i64 c,ql len q]] (.c (.bool true))) (s0:FnOK Tryz.prog true 15 [.c (ql len q)] (.c (.bool true))) (h2:r=c) (h3:r<=m):FnOK Tryz.prog true 9 [.c (.int .i64 m),oneM r c len q] (.c (.bool true)):=by
 refine jy (E:=E1v) zz Tryz.func9 rfl (by kernel_rfl) ?_;refine qf zz mixed (by kernel_rfl) ?_;conv=>whnf
 refine jq ?_;refine qf zz mixed (by kernel_rfl) ?_;conv=>whnf
 refine qq ?_;refine qZ (fun i:Nat=>gst [(0,.c (.int .i64 m)),(1,oneM r c len q),(5,.c (.int .i64 i))] []) (fun i=>1-i) (fun i=>i<=1) 0 (Weak.gen [] rfl trivial ⟨⟨_,rfl,rfl⟩,rO rfl,⟨_,rfl,rfl⟩,trivial⟩) (Nat.zero_le _) fun i hi=>?_;match i,hi with
 | 0,_ =>
  refine qf zz mixed (by kernel_rfl) ?_;conv=>whnf
  refine jq (qq ?_);refine qf zz mixed (by kernel_rfl) ?_;conv=>whnf
  refine⟨by decide,by decide,?_⟩;conv=>whnf
  refine⟨_,v0,?_⟩;conv=>whnf
  refine⟨by decide,by decide,?_⟩;conv=>whnf
  refine⟨by decide,by decide,?_⟩;conv=>whnf
  refine xG (xK.2 (show(!decide (r=c))=false by simp[h2])) ?_;conv=>whnf
  refine⟨by decide,by decide,?_⟩;conv=>whnf
  refine xG (xK.2 (show decide (m<r)=false from decide_eq_false (by omega))) ?_;conv=>whnf
  refine⟨by decide,by decide,?_⟩;conv=>whnf
  refine⟨_,s0,?_⟩;conv=>whnf
  refine qJ zz mixed (by kernel_rfl) ?_;conv=>whnf
  refine qJ zz mixed (by kernel_rfl) ?_;conv=>whnf
  refine⟨i64 (by decide) (by decide),?_⟩;conv=>whnf
  exact⟨1,by decide,Weak.gen [] rfl trivial ⟨⟨_,rfl,rfl⟩,rO rfl,⟨_,rfl,rfl⟩,trivial⟩,by decide⟩
 | 1,_ =>
  refine qf zz mixed (by kernel_rfl) ?_;conv=>whnf
  refine qJ zz mixed (by kernel_rfl) ?_;conv=>whnf
  exact⟨rfl,Sub.refl _⟩
open Classical in
theorem light11_ok {m r c:Int} {len:Nat} {q:Nat->RawR} (hn:len<=9223372036854775807):FnOK Tryz.prog true 9 [.c (.int .i64 m),oneM r c len q] (.c (.bool (decide (lite11 m r c len q)))):=by
 have v0:=rvalid_ok (r:=r) (c:=c) (len:=len) (f:=qlF q);have s0:=short11_ok (n:=len) (q:=q) (r:=decide (shq len q)) hn ⟨fun a=>of_decide_eq_true a,fun a=>decide_eq_true a⟩;by_cases h1:okm r c len
 ·rw[decide_eq_true h1]at v0;by_cases h2:r=c
  ·by_cases h3:r<=m
   ·by_cases h4:shq len q
    ·rw[decide_eq_true h4]at s0;rw[decide_eq_true (show lite11 m r c len q from⟨h1,h2,h3,h4⟩)];exact light11_e v0 s0 h2 h3
    ·rw[decide_eq_false h4]at s0;rw[decide_eq_false (fun e:lite11 m r c len q=>h4 e.2.2.2)];exact light11_d v0 s0 h2 h3
   ·rw[decide_eq_false (fun e:lite11 m r c len q=>h3 e.2.2.1)];exact light11_c v0 h2 (by omega)
  ·rw[decide_eq_false (fun e:lite11 m r c len q=>h2 e.2.1)];exact light11_b v0 h2
 ·rw[decide_eq_false h1]at v0;rw[decide_eq_false (fun e:lite11 m r c len q=>h1 e.1)];exact light11_a v0
end Rf
end Go.Proofs.YtkmbnldginonbaaGreat
/- Polynomials at matrices: how long the fractions get; the law's calls and what they hand back. -/
namespace Go.Proofs.YtkmbnldginonbaaGreat
open Go.RowKit
theorem su_sm (f : Nat → Rat) : ∀ n, Q.su f n = rsm n f
 | 0=>rfl
 | n+1=>by
  show Q.su f n+f n=rsm n f+f n;rw[su_sm f n]
theorem lt_B {e L:Nat} (h:e<32*L):2^e<Dg.B^L:=by
 have h1:Dg.B^L=2^(32*L):=(Nat.pow_mul 2 32 L).symm;rw[h1];exact Nat.pow_lt_pow_right (by decide) h
theorem kV {a b:Nat} (h:a<=b):2^a<=2^b:=Nat.pow_le_pow_right (by decide) h
theorem VF {D a t:Nat} (h:D<=2^a):D^t<=2^(a*t):=by
 rw[Nat.pow_mul];exact Nat.pow_le_pow_left h t
theorem kY {D E a b:Nat} (h:D<=2^a) (h':E<=2^b):D*E<=2^(a+b):=by
 rw[Nat.pow_add];exact Nat.mul_le_mul h h'
def hrn (n T:Nat) (F:Nat->Rat) (A:Nat->Nat->Rat) (t:Nat):Nat->Nat->Rat:=horner n A t fun i=>F (T-t+i)
theorem hrn_hor (n T:Nat) (F:Nat->Rat) (A:Nat->Nat->Rat):Rf.Hor n T F A (hrn n T F A):=by
 refine⟨rfl,fun t i j ht=>?_⟩;show horner n A (t+1) (fun i=>F (T-(t+1)+i)) i j=Q.su (fun k=>hrn n T F A t i k*A k j) n+F (T-1-t)*jk i j;rw[su_sm];have e:(fun i=>F (T-(t+1)+(i+1)))=fun i=>F (T-t+i):=funext fun i=>by rw[show T-(t+1)+(i+1)=T-t+i by omega]
 show rsm n (fun k=>horner n A t (fun i=>F (T-(t+1)+(i+1))) i k*A k j)+F (T-(t+1)+0)*jk i j=_;rw[e,show T-(t+1)+0=T-1-t by omega];rfl
theorem short_fits {n:Nat} {q:Nat->RawR} (hd:∀ i,i<n->Rf.dgq (q i)) (hs:Rf.shq n q):∃ D,0<D/\D<=2^(32*n)/\∀ i,i<n->Fits D (2^(32*n)) (q i).val:=by
 have h:∀ i,i<n->(q i).val.num.natAbs<=2^32/\(q i).val.den<=2^32:=fun i hi=>by
  have f:(q i).Fit 1:=⟨(hd i hi).1,(hd i hi).2,(hs i hi).1,(hs i hi).2⟩;have g:max (qB (q i).val.num) (qB ((q i).val.den:Int))<=1:=f.qlen (Nat.le_refl _);have a:=VX (q i).val.num;have b:=VX ((q i).val.den:Int);have a':=Nat.lt_of_lt_of_le a (Nat.pow_le_pow_right (show 0<Dg.B by decide) (show qB (q i).val.num<=1 by omega));have b':=Nat.lt_of_lt_of_le b (Nat.pow_le_pow_right (show 0<Dg.B by decide) (show qB ((q i).val.den:Int)<=1 by omega));rw[Nat.pow_one]at a' b';have e:Dg.B=2^32:=rfl;rw[e]at a' b';rw[Int.natAbs_natCast]at b';exact⟨Nat.le_of_lt a',Nat.le_of_lt b'⟩
 refine⟨dens n fun i=>(q i).val,dens_pos _ _,?_,fun i hi=>?_⟩
 ·rw[Nat.pow_mul];exact dens_le fun i hi=>(h i hi).2
 ·rw[Nat.pow_mul];exact fits_dens (f:=fun i=>(q i).val) h i hi
namespace Rf
end Rf
end Go.Proofs.YtkmbnldginonbaaGreat
/- The law CharpolyEvaluates: its calls, one behind the other, and what they hand back. -/
namespace Go.Proofs.YtkmbnldginonbaaGreat
open Go.RowKit
theorem matL_eq {n m:Nat} {Z W:Nat->Nat->Rat} (h:∀ i j,i<n->j<m->Z i j=W i j) (D:Nat->Prop) (w:World) (v:Value) (hv:VRel D w [] (.g (zj n m Z)) v):VRel D w [] (.g (zj n m W)) v:=by
 obtain⟨vs,e,h1⟩:=hv;refine⟨vs,e,?_⟩;match vs.toList,h1 with
 | [a,b,c],⟨g1,g2,g3,_⟩ =>
  refine⟨g1,g2,zg rfl (fun k l hk hl=>?_) D w c g3,trivial⟩;have hk:=Rf.mat_lt hk;exact Ug (c:=fun k=>ofR (Z (k / m) (k%m))) (e:=fun k=>ofR (W (k / m) (k%m))) (i:=k) (k:=k) (congrArg ofR (h _ _ hk.1 hk.2))
namespace Rf
end Rf
end Go.Proofs.YtkmbnldginonbaaGreat
set_option maxHeartbeats 8000000
namespace Go.Proofs.YtkmbnldginonbaaGreat
open Go.RowKit
namespace Mx
open Rf
theorem rat_at {n m i j:Nat} {q:Nat->RawR} {x:Rat} (hn:n<=64) (hm:m<=64) (hi:i<n) (hj:j<m) (hw:wq (q (i*m+j))) (hx:(q (i*m+j)).val=x):FnOK Tryz.prog false 54 [.g (qG n m q),.c (.int .i64 (i:Nat)),.c (.int .i64 (j:Nat))] (.g (nq x)):=by
 have hidx:=(mat_idx hi hj).1;have e:(i:Int)*(m:Int)+(j:Int)=((i*m+j:Nat):Int):=by rw[Int.natCast_add,Int.natCast_mul]
 have hb:n*m<=4096:=Nat.le_trans (Nat.mul_le_mul hn hm) (by decide);have hb1:(i:Int)*(m:Int)=((i*m:Nat):Int):=(Int.natCast_mul i m).symm;have k:FnOK Tryz.prog false 102 [.g (rr (q ((i:Int)*(m:Int)+(j:Int)).toNat))] (.g (nq x)):=by
  rw[e,Int.toNat_natCast,<- hx];exact vq hw
 have j0:(0:Int)<=(i:Int)*(m:Int)+(j:Int):=by omega
 have j1:(i:Int)*(m:Int)+(j:Int)<((n*m:Nat):Int):=by omega
 have j2:inR .i64 ((i:Int)*(m:Int)):=qz (by omega) (by omega);have j3:inR .i64 ((i:Int)*(m:Int)+(j:Int)):=qz (by omega) (by omega);refine qV (E:=E0) qw Tryz.func54 rfl mixed (by kernel_rfl) (by kernel_rfl) ?_;conv=>whnf
 repeat (refine⟨by first | exact j0 | exact j1 | exact j2 | exact j3,?_⟩;conv=>whnf)
 refine⟨_,k,?_⟩;conv=>whnf
 exact⟨rfl,Sub.refl _⟩
theorem rat_trace {n:Nat} {q:Nat->RawR} {G:Nat->Rat} (hn:n<=64) (hw:∀ i,i<n->wq (q (i*n+i))) (hG:∀ i,i<n->(q (i*n+i)).val=G i) (hq:∀ i,i<n->qlen (G i)<=65535) (hs:∀ i,i<=n->qlen (Crg.sm G i)<=65535):FnOK Tryz.prog false 13 [.g (qG n n q)] (.g (nq (Crg.sm G n))):=by
 have k0:=Xz;have k1:=fun i (hi:i<n)=>rat_at (n:=n) (m:=n) (q:=q) hn hn hi hi (hw i hi) (hG i hi);have k2:=fun i (hi:i<n)=>rqadd_n (x:=Crg.sm G i) (y:=G i) (Nat.le_trans (hs i (by omega)) (by decide)) (Nat.le_trans (hq i hi) (by decide));refine jy (E:=E0) qw Tryz.func13 rfl (by kernel_rfl) ?_;refine qy qw mixed (by kernel_rfl) ?_;conv=>whnf
 refine⟨gst [(1,.c (.p 0 0 3 0 0)),(2,.c (.p 1 0 4 0 0))] [⟨24,3,1,qk (qG n n q)⟩,⟨38,4,1,qk Uj⟩],Weak.gen [some 0,some 1] rfl ⟨boxK rfl rfl,boxK rfl rfl,trivial⟩ ⟨⟨_,rfl,rfl,rfl⟩,⟨_,rfl,rfl,rfl⟩,trivial⟩,?_⟩;refine qy qw mixed (by kernel_rfl) ?_;conv=>whnf
 refine⟨_,k0,?_⟩;conv=>whnf
 refine⟨gst [(1,.c (.p 0 0 3 0 0)),(2,.c (.p 1 0 4 0 0)),(3,.c (.p 2 0 4 0 0))] [⟨24,3,1,qk (qG n n q)⟩,⟨38,4,1,qk Uj⟩,⟨38,4,1,qk (nq 0)⟩],Weak.gen [some 0,some 1,some 2] rfl ⟨boxK rfl rfl,boxK rfl rfl,boxU rfl rfl rfl,trivial⟩ ⟨⟨_,rfl,rfl,rfl⟩,⟨_,rfl,rfl,rfl⟩,⟨_,rfl,rfl,rfl⟩,trivial⟩,?_⟩;refine qF (fun _:Unit=>gst [(2,.c (.p 0 0 4 0 0)),(3,.c (.p 1 0 4 0 0))] [⟨38,4,1,qk Uj⟩,⟨38,4,1,qk (nq (Crg.sm G n))⟩]) (fun _=>True) ?_ fun _ _=>?_;rotate_left
 ·refine qJ qw mixed (by kernel_rfl) ?_;conv=>whnf
  exact⟨rfl,Sub.refl _⟩
 refine qy qw mixed (by kernel_rfl) ?_;conv=>whnf
 refine⟨(fun i:Nat=>gst [(1,.c (.p 0 0 3 0 0)),(2,.c (.p 1 0 4 0 0)),(3,.c (.p 2 0 4 0 0)),(4,.c (.int .i64 ((i:Nat):Int)))] [⟨24,3,1,qk (qG n n q)⟩,⟨38,4,1,qk Uj⟩,⟨38,4,1,qk (nq (Crg.sm G i))⟩]) 0,Weak.gen [some 0,some 1,some 2] rfl ⟨boxK rfl rfl,boxK rfl rfl,boxK rfl rfl,trivial⟩ ⟨⟨_,rfl,rfl,rfl⟩,⟨_,rfl,rfl,rfl⟩,⟨_,rfl,rfl,rfl⟩,⟨_,rfl,rfl⟩,trivial⟩,?_⟩;refine qq (qZ (fun i:Nat=>gst [(1,.c (.p 0 0 3 0 0)),(2,.c (.p 1 0 4 0 0)),(3,.c (.p 2 0 4 0 0)),(4,.c (.int .i64 ((i:Nat):Int)))] [⟨24,3,1,qk (qG n n q)⟩,⟨38,4,1,qk Uj⟩,⟨38,4,1,qk (nq (Crg.sm G i))⟩]) (fun i=>n-i) (fun i=>i<=n) 0 (Weak.refl _) (Nat.zero_le _) fun i hi=>?_);rcases Nat.lt_or_ge i n with h | h
 ·have k1:=k1 i h;have k2:=k2 i h;refine qJ qw mixed (by kernel_rfl) ?_;conv=>whnf
  refine xG (show decide ((i:Int)<(n:Int))=true from decide_eq_true (by omega)) ?_;conv=>whnf
  refine⟨_,k1,?_⟩;conv=>whnf
  refine⟨_,k2,?_⟩;conv=>whnf
  refine⟨qz (by omega) (by omega),?_⟩;conv=>whnf
  exact⟨i+1,by omega,Weak.gen [some 0,some 1,some 2] rfl ⟨boxK rfl rfl,boxK rfl rfl,boxU rfl rfl rfl,trivial⟩ ⟨⟨_,rfl,rfl,rfl⟩,⟨_,rfl,rfl,rfl⟩,⟨_,rfl,rfl,rfl⟩,⟨_,rfl,rfl⟩,trivial⟩,h⟩
 ·obtain rfl:i=n:=by have hi:i<=n:=hi;omega
  refine qJ qw mixed (by kernel_rfl) ?_;conv=>whnf
  refine jj (show decide ((i:Int)<(i:Int))=false from decide_eq_false (by omega)) ?_;conv=>whnf
  exact⟨(),trivial,Weak.gen [some 1,some 2] rfl ⟨boxK rfl rfl,boxK rfl rfl,trivial⟩ ⟨⟨_,rfl,rfl,rfl⟩,⟨_,rfl,rfl,rfl⟩,trivial⟩⟩
theorem Vy (f : Nat → Rat) : ∀ n, Q.su f n = Crg.sm f n
 | 0=>rfl
 | n+1=>congrArg (·+f n) (Vy f n)
def xw (n : Nat) (A : Nat → Nat → Rat) : Nat → Nat → Nat → Rat
 | 0=>A
 | t+1=>fun r j=>xY (xw n A t r) A n j
def sk (n:Nat) (A:Nat->Nat->Rat) (k:Nat):Rat:=if 1<=k/\k<=6 then tr n (mpw n A k)else 0
def fnz (n:Nat) (w:Nat->Rat):Nat:=pvf (fun i _=>w i) 0 n 0
theorem U8 (n:Nat) (w:Nat->Rat):fnz n w<=n/\(∀ j,j<fnz n w->w j=0)/\(fnz n w<n->w (fnz n w)≠0):=by
 obtain⟨-,h2,h3,h4⟩:=pvf_spec (fun i _=>w i) 0 n 0;rw[Nat.zero_add]at h2 h4;exact⟨h2,fun j hj=>h3 j (Nat.zero_le j) hj,h4⟩
def mkn (n:Nat) (s:(Nat->Rat) × (Nat->Rat)):Kn Rat:=⟨fun j=>s.1 j*(1 / s.1 (fnz n s.1)),fnz n s.1,fun j=>s.2 j*(1 / s.1 (fnz n s.1))⟩
def aL (L : Nat) : Nat → Nat
 | 0=>L
 | i+1=>4*aL L i+2
theorem aL_mono (L:Nat) {i j:Nat} (h:i<=j):aL L i<=aL L j:=by
 induction j with
 | zero=>rw[Nat.le_zero.1 h];exact Nat.le_refl _
 | succ j ih =>
  rcases Nat.lt_or_ge i (j+1)with e | e
  ·have:=ih (by omega);show aL L i<=4*aL L j+2;omega
  ·rw[show i=j+1 by omega];exact Nat.le_refl _
theorem aL_le {L i:Nat} (h1:1<=L) (hi:i<=6):aL L i<=8192*L:=by
 refine Nat.le_trans (aL_mono L hi) ?_;show 4*(4*(4*(4*(4*(4*L+2)+2)+2)+2)+2)+2<=8192*L;omega
theorem xpn_len (r j:Nat):qlen (xpn r j:Rat)<=1:=by
 unfold xpn;split
 ·exact q_one
 ·exact Uy
theorem rdw_len {n R L : Nat} {A : Nat → Nat → Rat} {v : Nat → Rat} {kn : Nat → Kn Rat} (h1 : 1 ≤ L) (hk : ∀ r, kn r = mkn n (rdw n A v kn r r)) (hlt : ∀ r, r < R → (kn r).p < n) (hV : ∀ r j, r ≤ R → j < n → qlen (av n A v r j) ≤ L) : ∀ i r, i ≤ r → r ≤ R → (∀ j, j < n → qlen ((rdw n A v kn r i).1 j) ≤ aL L i) ∧ (∀ j, qlen ((rdw n A v kn r i).2 j) ≤ aL L i) ∧ (i < r → (∀ j, j < n → qlen ((kn i).v j) ≤ 2 * aL L i + 1) ∧ ∀ j, qlen ((kn i).q j) ≤ 2 * aL L i + 1)
 | i,r,hi,hr=>by
  have hb:(∀ r,i<=r->r<=R->(∀ j,j<n->qlen ((rdw n A v kn r i).1 j)<=aL L i)/\(∀ j,qlen ((rdw n A v kn r i).2 j)<=aL L i)):=fun r hi hr=>by
   cases i with
   | zero=>exact⟨fun j hj=>hV r j hr hj,fun j=>Nat.le_trans (xpn_len r j) h1⟩
   | succ i =>
    obtain⟨a1,a2,a3⟩:=rdw_len h1 hk hlt hV i r (by omega) hr;obtain⟨b1,b2⟩:=a3 (by omega);have hp:=hlt i (by omega);refine⟨fun j hj=>?_,fun j=>?_⟩
    ·exact Nat.le_trans (q_sub (a1 j hj) (kb (a1 _ hp) (b1 j hj) (by omega)) (by omega)) (by show _<=4*aL L i+2;omega)
    ·exact Nat.le_trans (q_sub (a2 j) (kb (b2 j) (a1 _ hp) (by omega)) (by omega)) (by show _<=4*aL L i+2;omega)
  refine⟨(hb r hi hr).1,(hb r hi hr).2,fun hir=>?_⟩;obtain⟨a1,a2⟩:=hb i (Nat.le_refl i) (by omega);have hp:=hlt i (by omega);have e:(kn i).p=fnz n (rdw n A v kn i i).1:=by rw[hk i];rfl
  rw[e]at hp;have hd:qlen (1 / (rdw n A v kn i i).1 (fnz n (rdw n A v kn i i).1))<=1+aL L i:=q_div q_one (a1 _ hp) (by omega);refine⟨fun j hj=>?_,fun j=>?_⟩
  ·rw[hk i];exact Nat.le_trans (kb (a1 j hj) hd (by omega)) (by omega)
  ·rw[hk i];exact Nat.le_trans (kb (a2 j) hd (by omega)) (by omega)
theorem least_ex {P : Nat → Prop} : ∀ n, (∃ r, r ≤ n ∧ P r) → ∃ R, R ≤ n ∧ P R ∧ ∀ r, r < R → ¬ P r
 | 0,⟨r,h1,h2⟩=>⟨0,Nat.le_refl 0,by rw[<- Nat.le_zero.1 h1];exact h2,fun r hr=>absurd hr (Nat.not_lt_zero r)⟩
 | n+1,⟨r,h1,h2⟩=>by
  by_cases h:∃ r,r<=n/\P r
  ·obtain⟨R,a,b,c⟩:=least_ex n h;exact⟨R,by omega,b,c⟩
  ·exact⟨r,h1,h2,fun s hs hp=>h ⟨s,by omega,hp⟩⟩
theorem rat_inv {x:Rat} (h:x≠0):x*(1 / x)=1:=by
 rw[Rat.div_def,Rat.one_mul,Rat.mul_inv_cancel x h]
theorem ann_ok {n:Nat} {p:Nat->RawR} {A:Nat->Nat->Rat} {v:Nat->Rat} {L:Nat} (hn:n<=6) (hp:∀ a,a<n*n->(p a).Fit KD) (hA:∀ i j,i<n->j<n->(p (i*n+j)).val=A i j) (lA:∀ i j,i<n->j<n->qlen (A i j)<=KD) (hV:∀ r j,r<=n->j<n->qlen (av n A v r j)<=L) (h1:1<=L) (hL:L<=1048576) (hS:∀ r i j,r<n->i<=n->j<n->qlen (xY (av n A v r) A i j)<=KD):∃ g:Pol Rat,Ann n A v g/\g.len<=n+1/\(∀ i,qlen (g.f i)<=8192*L)/\FnOK Tryz.prog true 67 [.g (qG n n p),.c (nql n v)] (.c (nql g.len g.f)):=by
 have hLIM:LIM=1099511627776:=rfl;obtain⟨kn,hk⟩:=ex_kn n A v (mkn n);have ep:∀ r,(kn r).p=fnz n (rdw n A v kn r r).1:=fun r=>by rw[hk r];rfl
 have mkK:∀ R,(∀ r,r<R->¬ fnz n (rdw n A v kn r r).1=n)->Kns n A v R kn fun r=>1 / (rdw n A v kn r r).1 (fnz n (rdw n A v kn r r).1):=fun R h=>by
  have hlt:∀ r,r<R->fnz n (rdw n A v kn r r).1<n:=fun r hr=>Nat.lt_of_le_of_ne (U8 n _).1 (h r hr);exact⟨fun r hr=>by rw[ep];exact hlt r hr,fun r hr=>by rw[ep];exact rat_inv ((U8 n _).2.2 (hlt r hr)),fun r _ j=>by rw[hk r];rfl,fun r _ j=>by rw[hk r];rfl⟩
 obtain⟨R,hR,hz,hne⟩:∃ R,R<=n/\fnz n (rdw n A v kn R R).1=n/\∀ r,r<R->¬ fnz n (rdw n A v kn r r).1=n:=by
  refine least_ex n (Classical.byContradiction fun hx=>?_);have:=(mkK (n+1) fun r hr e=>hx ⟨r,by omega,e⟩).len;omega
 have K:=mkK R hne;have hlt:=K.lt;have hl:=fun i r (hi:i<=r) (hr:r<=R)=>rdw_len (R:=R) h1 hk hlt (fun r j hr hj=>hV r j (by omega) hj) i r hi hr;have hl1:∀ i r j,i<=r->r<=R->j<n->qlen ((rdw n A v kn r i).1 j)<=8192*L:=fun i r j hi hr hj=>Nat.le_trans ((hl i r hi hr).1 j hj) (aL_le h1 (by omega));have hl2:∀ i r j,i<=r->r<=R->qlen ((rdw n A v kn r i).2 j)<=8192*L:=fun i r j hi hr=>Nat.le_trans ((hl i r hi hr).2.1 j) (aL_le h1 (by omega));have hl3:∀ i j,i<R->j<n->qlen ((kn i).v j)<=16385*L:=fun i j hi hj=>by
  have a:=((hl i R (by omega) (Nat.le_refl R)).2.2 hi).1 j hj;have b:=aL_le (L:=L) (i:=i) h1 (by omega);omega
 have hl4:∀ i j,i<R->qlen ((kn i).q j)<=16385*L:=fun i j hi=>by
  have a:=((hl i R (by omega) (Nat.le_refl R)).2.2 hi).2 j;have b:=aL_le (L:=L) (i:=i) h1 (by omega);omega
 have hw:∀ r,r<R->(rdw n A v kn r r).1 ((kn r).p)≠0:=fun r hr=>by rw[ep];exact(U8 n _).2.2 (by rw[<- ep];exact hlt r hr)
 have hb:∀ r,r<R->qlen (1 / (rdw n A v kn r r).1 ((kn r).p))<=1+8192*L:=fun r hr=>q_div q_one (hl1 r r _ (Nat.le_refl r) (by omega) (hlt r hr)) (by omega);have kvE:∀ r,(kn r).v=fun j=>(rdw n A v kn r r).1 j*(1 / (rdw n A v kn r r).1 ((kn r).p)):=fun r=>by rw[ep];exact congrArg Kn.v (hk r)
 have kqE:∀ r,(kn r).q=fun j=>(rdw n A v kn r r).2 j*(1 / (rdw n A v kn r r).1 ((kn r).p)):=fun r=>by rw[ep];exact congrArg Kn.q (hk r)
 have kred:∀ r,r<=R->FnM Tryz.prog true 113 (gb (kcB n r (fun i=>(kn i).v) (fun i=>(kn i).q) fun i=>(kn i).p)) [.c (.gs 0 0),.c (nql n (av n A v r)),.c (nql (r+1) (xpn r))] (.t2 (.c (nql n (rdw n A v kn r r).1)) (.c (nql (r+1) (rdw n A v kn r r).2))) (gb (kcB n r (fun i=>(kn i).v) (fun i=>(kn i).q) fun i=>(kn i).p)) []:=fun r hr=>by
  refine red_ok (W:=fun i=>(rdw n A v kn r i).1) (G:=fun i=>(rdw n A v kn r i).2) (L:=16385*L) (by omega) (by omega) ⟨fun i hi=>hlt i (by omega),fun i j hi hj=>Nat.le_trans (hl1 i r j hi hr hj) (by omega),fun i j hi _=>Nat.le_trans (hl2 i r j hi hr) (by omega),fun i j hi hj=>hl3 i j (by omega) hj,fun i j hi _=>hl4 i j (by omega),fun _ _ _ _=>rfl,fun _ _ _ _=>rfl,fun i j hi hj=>(K.all i (by omega)).deg j hj,fun i hi=>(K.inv hr hi).2.2.2⟩ (by omega) (by omega)
 have W:Anw n R p (av n A v) (fun r=>(rdw n A v kn r r).1) (fun r=>(rdw n A v kn r r).2) (fun i=>(kn i).v) (fun i=>(kn i).q) (fun i=>(kn i).p) fun r=>1 / (rdw n A v kn r r).1 ((kn r).p):=by
  refine⟨by omega,by omega,kred,fun r j hr hj=>nz_ok (hl1 r r j (Nat.le_refl r) hr hj) (by omega),hlt,hw,fun r j hr hj=>(U8 n _).2.1 j (by rw[<- ep];exact hj),fun j hj=>(U8 n _).2.1 j (by rw[hz];exact hj),fun r hr=>qquo_n q_one (hl1 r r _ (Nat.le_refl r) (by omega) (hlt r hr)) (by omega) (hw r hr) rfl,fun r j hr hj=>?_,fun r hr=>?_,fun r hr=>?_,fun r hr=>?_,?_⟩
  ·exact Uf (hl1 r r j (Nat.le_refl r) (by omega) hj) (hb r hr) (by omega) (by rw[kvE])
  ·have h:=gj (m:=r+1) (F:=(rdw n A v kn r r).2) (w:=1 / (rdw n A v kn r r).1 ((kn r).p)) (by omega) (fun j _=>hl2 r r j (Nat.le_refl r) (by omega)) (hb r hr) (by omega);show FnOK _ _ _ _ (.c (nql (r+1) (kn r).q));rw[kqE];rwa [Q.tq_self (n:=r+1) (fun k hk'=>by
    rw[show k=r by omega];have e:=(K.all r hr).top;rwa [kqE]at e)]at h
  ·exact apply_n (by omega) (fun i hi=>Nat.le_trans (hV r i (by omega) hi) (Nat.le_trans hL (by decide))) hp hA lA (fun i j hi hj=>hS r i j (by omega) hi hj) fun j hj=>Vy (fun a=>av n A v r a*A a j) n
  ·have h:=shift_step (n:=r) (v:=(xpn r:Nat->Rat)) (L:=1) (by omega) (fun i _=>xpn_len r i) (Nat.le_refl 1) (by omega) (by
    show(if r=r then(1:Rat)else 0)≠0;rw[if_pos rfl];exact rat_one_ne)
   have e:xs (xpn r:Nat->Rat)=xpn (r+1):=funext fun j=>by
    show(if 1<=j then(if j-1=r then(1:Rat)else 0)else 0)=if j=r+1 then 1 else 0
    by_cases c:j=r+1
    ·rw[if_pos (by omega),if_pos (by omega),if_pos c]
    ·rw[if_neg c];split
     ·rw[if_neg (by omega)]
     ·rfl
   rwa [e]at h
  ·exact monic_n (by omega) (fun i _=>hl2 R R i (Nat.le_refl R) (Nat.le_refl R)) (by omega) (K.inv (Nat.le_refl R) (Nat.le_refl R)).2.2.2
 obtain⟨g,gl,gf,ga⟩:=K.ann fun j hj=>(U8 n _).2.1 j (by rw[hz];exact hj);have e:g.f=(rdw n A v kn R R).2:=funext gf;refine⟨g,ga,by omega,fun i=>by rw[gf];exact hl2 R R i (Nat.le_refl R) (Nat.le_refl R),?_⟩;rw[gl,e];exact ann_walk W
set_option maxHeartbeats 16000000
theorem row_n {n i:Nat} {G:Nat->Nat->Rat} (hn:n<=64) (hi:i<n) (hq:∀ j,j<n->qlen (G i j)<=KD):FnOK Tryz.prog true 65 [.g (zj n n G),.c (.int .i64 (i:Nat))] (.t2 (.c (nql n (G i))) (.c (.int .i64 0))):=by
 have b1:i*n<=64*64:=Nat.mul_le_mul (by omega) hn;have b2:(i+1)*n<=65*64:=Nat.mul_le_mul (by omega) hn;have m3:(i+1)*n=i*n+n:=Nat.succ_mul i n;have m4:i*n+n<=n*n:=by rw[<- m3];exact Nat.mul_le_mul_right n hi
 have m1:((i*n:Nat):Int)=(i:Int)*(n:Int):=Int.natCast_mul i n;have m2:(((i+1)*n:Nat):Int)=((i:Int)+1)*(n:Int):=by rw[Int.natCast_mul];rfl
 have l1:=loadR_ok (n:=1) (m:=n) (q:=fun k=>ofR (G i k)) (G:=fun _ j=>G i j) (by omega) hn (fun k hk=>zX (hq k (by omega))) fun a j ha hj=>by
  rw[qP,show a*n+j=j by rw[show a=0 by omega];omega]
 have l2:FnOK Tryz.prog true 111 [.g [.int .i64 1,.int .i64 n,.row 4 (((i:Int)+1)*n-(i:Int)*n).toNat fun a b=>qlF (fun k=>ofR (G (k / n) (k%n))) (((i:Int)*n).toNat+a) b]] (.c (vb 1 n fun _ j=>G i j)):=by
  refine arg_ok l1 fun D' w vs h=>?_;match vs,h with
  | [v],⟨⟨us,e,h1⟩,_⟩ =>
   refine⟨⟨us,e,?_⟩,trivial⟩;match us.toList,h1 with
   | [a,b,c],⟨g1,g2,g3,_⟩ =>
    refine⟨g1,g2,zg (by rw[<- m1,<- m2,m3];omega) (fun x y hx _=>?_) D' w c g3,trivial⟩;rw[Nat.one_mul]at hx;rw[<- m1,Int.toNat_natCast];show qlF (fun k=>ofR (G (k / n) (k%n))) (i*n+x) y=qlF (fun k=>ofR (G i k)) x y;have q1:(i*n+x) / n=i:=by rw[Nat.mul_comm,Nat.mul_add_div (by omega),Nat.div_eq_of_lt hx,Nat.add_zero]
    have q2:(i*n+x)%n=x:=by rw[Nat.mul_comm,Nat.mul_add_mod,Nat.mod_eq_of_lt hx]
    exact congrArg (fun z=>(rr z).getD y .any) (show ofR (G ((i*n+x) / n) ((i*n+x)%n))=ofR (G i x)by rw[q1,q2])
 have v1:=wB (n:=n) (m:=n) (q:=fun k=>ofR (G (k / n) (k%n))) (by omega) (by omega);refine qV (E:=E1) qQ Tryz.func65 rfl mixed (by kernel_rfl) (by kernel_rfl) ?_;conv=>whnf
 refine⟨_,v1,?_⟩;conv=>whnf
 refine jj (show decide ((n:Int)<=(i:Int))=false from decide_eq_false (by omega)) ?_;conv=>whnf
 refine⟨qz (by rw[<- m1];omega) (by rw[<- m1];omega),?_⟩;conv=>whnf
 refine⟨qz (by omega) (by omega),?_⟩;conv=>whnf
 refine⟨qz (by rw[<- m2];omega) (by rw[<- m2];omega),?_⟩;conv=>whnf
 refine⟨by rw[<- m1];omega,by rw[<- m1,<- m2,m3];omega,?_⟩;conv=>whnf
 refine⟨by rw[<- m2,m3];omega,?_⟩;conv=>whnf
 refine .inr ⟨_,l2,?_⟩;conv=>whnf
 refine⟨by decide,?_⟩;conv=>whnf
 refine⟨by decide,?_⟩;conv=>whnf
 exact⟨rfl,Sub.refl _⟩
structure Mpw (n : Nat) (p : Nat → RawR) (f g : Nat → Pol Rat) (E : Nat → Nat → Nat → Rat) : Prop where
 hn:n<=64
 start:f 0=1
 kat:∀ i,i<n->FnOK Tryz.prog true 27 [.c (nql (f i).len (f i).f),.g (qG n n p)] (.t2 (.g (zj n n (E i))) (.c (.int .i64 0)))
 krow:∀ i,i<n->FnOK Tryz.prog true 65 [.g (zj n n (E i)),.c (.int .i64 (i:Nat))] (.t2 (.c (nql n (E i i))) (.c (.int .i64 0)))
 kann:∀ i,i<n->FnOK Tryz.prog true 67 [.g (qG n n p),.c (nql n (E i i))] (.c (nql (g i).len (g i).f))
 kmul:∀ i,i<n->FnOK Tryz.prog true 66 [.c (nql (f i).len (f i).f),.c (nql (g i).len (g i).f)] (.c (nql (f (i+1)).len (f (i+1)).f))
theorem sub_nql {a b:Nat} {f g:Nat->Rat} (h:a=b) (e:∀ i,i<b->f i=g i):Sub (.c (nql a f)) (.c (nql b g)):=zg h fun i j hi _=>congrArg (fun z=>(rr (ofR z)).getD j .any) (e i hi)
set_option maxRecDepth 100000 in
theorem min_walk {n:Nat} {p:Nat->RawR} {f g:Nat->Pol Rat} {E:Nat->Nat->Nat->Rat} (h:Mpw n p f g E):FnOK Tryz.prog true 20 [.g (qG n n p)] (.t2 (.c (nql (f n).len (f n).f)) (.c (.int .i64 0))):=by
 obtain⟨hn,hs,kat,krow,kann,kmul⟩:=h;have k0:FnOK Tryz.prog true 38 [.g (qG n n p)] (.c (.int .i64 0)):=by
  have h:=check_ok (r:=n) (c:=n) (len:=n*n) (f:=qlF p);rwa [show jW (n:Int) n ((n*n:Nat):Int)=0 by
   unfold jW;rw[if_pos ⟨⟨⟨by omega,by omega⟩,⟨by omega,by omega⟩,by rw[Int.natCast_mul]⟩,rfl⟩,if_neg (by omega)]]at h
 have k1:FnOK Tryz.prog true 41 [] (.c (nql (f 0).len (f 0).f)):=one_ok.res (sub_nql (by rw[hs,Pol.len_one]) fun i hi=>by
  rw[hs,Pol.len_one]at hi;rw[hs,show i=0 by omega];rfl)
 clear hs;obtain⟨N,hN⟩:∃ N:Nat->Nat,∀ i,(f i).len=N i:=⟨_,fun _=>rfl⟩;obtain⟨F,hF⟩:∃ F:Nat->Nat->Rat,∀ i,(f i).f=F i:=⟨_,fun _=>rfl⟩;simp only[hN,hF]at kat kmul k1 ⊢
 clear hN hF;refine jy (E:=E1) qQ Tryz.func20 rfl (by kernel_rfl) ?_;refine qy qQ mixed (by kernel_rfl) ?_;conv=>whnf
 refine⟨gst [(1,.c (.p 0 0 3 0 0))] [⟨24,3,1,qk (qG n n p)⟩],Weak.gen [some 0] rfl ⟨Rf.boxK rfl rfl,trivial⟩ ⟨⟨_,rfl,rfl,rfl⟩,trivial⟩,?_⟩;refine qy qQ mixed (by kernel_rfl) ?_;conv=>whnf
 refine⟨_,k0,?_⟩;conv=>whnf
 refine⟨gst [(1,.c (.p 0 0 3 0 0))] [⟨24,3,1,qk (qG n n p)⟩],Weak.gen [some 0] rfl ⟨Rf.boxK rfl rfl,trivial⟩ ⟨⟨_,rfl,rfl,rfl⟩,trivial⟩,?_⟩;refine qy qQ mixed (by kernel_rfl) ?_;conv=>whnf
 refine⟨_,k1,?_⟩;conv=>whnf
 refine⟨gst [(1,.c (.p 0 0 3 0 0)),(5,.c (nql (N 0) (F 0)))] [⟨24,3,1,qk (qG n n p)⟩],Weak.gen [some 0] rfl ⟨Rf.boxK rfl rfl,trivial⟩ ⟨⟨_,rfl,rfl,rfl⟩,rO rfl,trivial⟩,?_⟩;refine qF (fun _:Unit=>gst [(5,.c (nql (N n) (F n)))] []) (fun _=>True) ?_ fun _ _=>?_;rotate_left
 ·refine qJ qQ mixed (by kernel_rfl) ?_;conv=>whnf
  exact⟨rfl,Sub.refl _⟩
 refine qy qQ mixed (by kernel_rfl) ?_;conv=>whnf
 refine⟨(fun i:Nat=>gst [(1,.c (.p 0 0 3 0 0)),(5,.c (nql (N i) (F i))),(18,.c (.int .i64 ((n:Nat):Int))),(19,.c (.int .i64 ((i:Nat):Int)))] [⟨24,3,1,qk (qG n n p)⟩]) 0,Weak.gen [some 0] rfl ⟨Rf.boxK rfl rfl,trivial⟩ ⟨⟨_,rfl,rfl,rfl⟩,rO rfl,⟨_,rfl,rfl⟩,⟨_,rfl,rfl⟩,trivial⟩,?_⟩;refine qq (qZ (fun i:Nat=>gst [(1,.c (.p 0 0 3 0 0)),(5,.c (nql (N i) (F i))),(18,.c (.int .i64 ((n:Nat):Int))),(19,.c (.int .i64 ((i:Nat):Int)))] [⟨24,3,1,qk (qG n n p)⟩]) (fun i=>n-i) (fun i=>i<=n) 0 (Weak.refl _) (Nat.zero_le n) fun i hi=>?_);have hi:i<=n:=hi;rcases Nat.lt_or_ge i n with hlt | hge;rotate_left
 ·obtain rfl:i=n:=by omega
  refine qf qQ mixed (by kernel_rfl) ?_;conv=>whnf
  refine qJ qQ mixed (by kernel_rfl) ?_;conv=>whnf
  refine jj (show decide ((i:Int)<(i:Int))=false from decide_eq_false (by omega)) ?_;conv=>whnf
  exact⟨(),trivial,Weak.gen [] rfl trivial ⟨rO rfl,trivial⟩⟩
 have kat:=kat i hlt;have krow:=krow i hlt;have kann:=kann i hlt;have kmul:=kmul i hlt;refine qf qQ mixed (by kernel_rfl) ?_;conv=>whnf
 refine qy qQ mixed (by kernel_rfl) ?_;conv=>whnf
 refine xG (show decide ((i:Int)<(n:Int))=true from decide_eq_true (by omega)) ?_;conv=>whnf
 refine⟨gst [(1,.c (.p 0 0 3 0 0)),(5,.c (nql (N i) (F i))),(18,.c (.int .i64 ((n:Nat):Int))),(19,.c (.int .i64 ((i:Nat):Int)))] [⟨24,3,1,qk (qG n n p)⟩],Weak.gen [some 0] rfl ⟨Rf.boxK rfl rfl,trivial⟩ ⟨⟨_,rfl,rfl,rfl⟩,rO rfl,⟨_,rfl,rfl⟩,⟨_,rfl,rfl⟩,trivial⟩,?_⟩;refine qF (fun _:Unit=>gst [(1,.c (.p 0 0 3 0 0)),(5,.c (nql (N (i+1)) (F (i+1)))),(18,.c (.int .i64 ((n:Nat):Int))),(19,.c (.int .i64 ((i:Nat):Int)))] [⟨24,3,1,qk (qG n n p)⟩]) (fun _=>True) ?_ fun _ _=>?_;rotate_left
 ·refine qJ qQ mixed (by kernel_rfl) ?_;conv=>whnf
  refine⟨qz (by omega) (by omega),?_⟩;conv=>whnf
  exact⟨i+1,by omega,Weak.gen [some 0] rfl ⟨Rf.boxK rfl rfl,trivial⟩ ⟨⟨_,rfl,rfl,rfl⟩,rO rfl,⟨_,rfl,rfl⟩,⟨_,rfl,rfl⟩,trivial⟩,hlt⟩
 refine qq ?_;refine qJ qQ mixed (by kernel_rfl) ?_;conv=>whnf
 refine⟨_,kat,?_⟩;conv=>whnf
 refine⟨_,krow,?_⟩;conv=>whnf
 refine⟨_,kann,?_⟩;conv=>whnf
 refine⟨_,kmul,?_⟩;conv=>whnf
 exact⟨(),trivial,Weak.gen [some 0] rfl ⟨Rf.boxK rfl rfl,trivial⟩ ⟨⟨_,rfl,rfl,rfl⟩,rO rfl,⟨_,rfl,rfl⟩,⟨_,rfl,rfl⟩,trivial⟩⟩
end Mx
end Go.Proofs.YtkmbnldginonbaaGreat
namespace Go.Proofs.YtkmbnldginonbaaGreat
open Crg Pol
namespace Mx
def IntB (M:Nat) (x:Rat):Prop:=∃ k:Int,x=(k:Rat)/\k.natAbs<=M
theorem IntB.mul {M N:Nat} {x y:Rat} (h:IntB M x) (g:IntB N y):IntB (M*N) (x*y):=by
 obtain⟨a,rfl,ha⟩:=h;obtain⟨b,rfl,hb⟩:=g;exact⟨a*b,(Rat.intCast_mul a b).symm,by rw[Int.natAbs_mul];exact Nat.mul_le_mul ha hb⟩
theorem IntB.sub {M N:Nat} {x y:Rat} (h:IntB M x) (g:IntB N y):IntB (M+N) (x-y):=by
 obtain⟨a,rfl,ha⟩:=h;obtain⟨b,rfl,hb⟩:=g;exact⟨a-b,(Rat.intCast_sub a b).symm,by omega⟩
theorem IntB.mono {M N:Nat} {x:Rat} (h:IntB M x) (hM:M<=N):IntB N x:=by
 obtain⟨a,h,ha⟩:=h;exact⟨a,h,Nat.le_trans ha hM⟩
def es : Nat → Nat → Nat
 | 0,M=>M
 | k+1,M=>es k (2*(M*M))
theorem es_mono : ∀ (k : Nat) {M N : Nat}, M ≤ N → es k M ≤ es k N
 | 0,_,_,h=>h
 | k+1,_,_,h=>es_mono k (Nat.mul_le_mul_left 2 (Nat.mul_le_mul h h))
theorem es_up (k:Nat) {M:Nat}:es k M<=es (k+1) M:=es_mono k (by
 rcases Nat.eq_zero_or_pos M with e | e
 ·rw[e];exact Nat.le_refl 0
 ·have:=Nat.le_mul_of_pos_left M e;omega)
theorem es_two : ∀ (k m : Nat), es k (2 ^ m) ≤ 2 ^ (2 ^ k * (m + 1))
 | 0,m=>Nat.pow_le_pow_right (by omega) (by rw[Nat.pow_zero,Nat.one_mul];omega)
 | k+1,m=>by
  show es k (2*(2^m*2^m))<=_;rw[<- Nat.pow_add,Nat.mul_comm 2,<- Nat.pow_succ];refine Nat.le_trans (es_two k _) (Nat.pow_le_pow_right (by omega) ?_);rw[Nat.pow_succ,Nat.mul_assoc];exact Nat.mul_le_mul_left _ (by omega)
open Classical in
theorem rel_fits : ∀ (k M N : Nat) (U : Nat → Nat → Rat) (V T : Nat → Rat) (c0 : Rat) (c : Nat → Rat), (∀ t j, t < k → j < N → IntB M (U t j)) → (∀ j, j < N → IntB M (V j)) → (∀ j, j < N → IntB M (T j)) → (∀ j, j < N → T j = c0 * V j + sm (fun t => c t * U t j) k) → (∀ (e0 : Rat) (e : Nat → Rat), (∀ j, j < N → e0 * V j + sm (fun t => e t * U t j) k = 0) → e0 = 0) → ∃ p q : Int, q ≠ 0 ∧ c0 * (q : Rat) = (p : Rat) ∧ p.natAbs ≤ es k M ∧ q.natAbs ≤ es k M
 | 0,M,N,U,V,T,c0,c,_,hV,hT,hr,hi=>by
  by_cases hx:∃ j,j<N/\V j≠0
  ·obtain⟨j,hj,h0⟩:=hx;obtain⟨q,eq,bq⟩:=hV j hj;obtain⟨p,ep,bp⟩:=hT j hj;refine⟨p,q,fun e=>h0 (by rw[eq,e];rfl),?_,bp,bq⟩;rw[<- ep,<- eq,hr j hj];exact(Rat.add_zero _).symm
  ·exact absurd (hi 1 (fun _=>0) fun j hj=>by
    rw[show V j=0 from Classical.byContradiction fun e=>hx ⟨j,hj,e⟩,Rat.mul_zero];exact Rat.add_zero 0) (by decide)
 | k+1,M,N,U,V,T,c0,c,hU,hV,hT,hr,hi=>by
  by_cases hx:∃ j,j<N/\U k j≠0
  ·obtain⟨j0,hj0,h0⟩:=hx;have step:∀(d0:Rat) (d:Nat->Rat) (j:Nat),d0*(U k j0*V j-V j0*U k j)+sm (fun t=>d t*(U k j0*U t j-U t j0*U k j)) k=U k j0*(d0*V j+sm (fun t=>d t*U t j) k)-U k j*(d0*V j0+sm (fun t=>d t*U t j0) k):=fun d0 d j=>by
    have e1:sm (fun t=>d t*(U k j0*U t j-U t j0*U k j)) k=U k j0*sm (fun t=>d t*U t j) k + -(U k j*sm (fun t=>d t*U t j0) k):=by
     rw[Crg.mul_sm,Crg.mul_sm,<- Crg.sm_neg,<- Crg.sm_add];exact Crg.sm_congr fun t _=>RE.eq [d t,U k j0,U t j,U t j0,U k j] (t0*(t1*t2-t3*t4)) (t1*(t0*t2) + -(t4*(t0*t3))) rfl
    rw[e1];exact RE.eq [d0,U k j0,V j,V j0,U k j,sm (fun t=>d t*U t j) k,sm (fun t=>d t*U t j0) k] (t0*(t1*t2-t3*t4)+(t1*t5 + -(t4*t6))) (t1*(t0*t2+t5)-t4*(t0*t3+t6)) rfl
   have hu:∀ {x y:Nat->Rat},(∀ j,j<N->IntB M (x j))->(∀ j,j<N->IntB M (y j))->∀ j,j<N->IntB (2*(M*M)) (U k j0*x j-x j0*U k j):=fun {x y} h1 _ j hj=>((hU k j0 (by omega) hj0).mul (h1 j hj)).sub ((h1 j0 hj0).mul (hU k j (by omega) hj)) |>.mono (by omega);refine rel_fits k (2*(M*M)) N (fun t j=>U k j0*U t j-U t j0*U k j) (fun j=>U k j0*V j-V j0*U k j) (fun j=>U k j0*T j-T j0*U k j) c0 c (fun t j ht hj=>hu (y:=T) (fun j hj=>hU t j (by omega) hj) hT j hj) (hu (y:=T) hV hT) (hu (y:=T) hT hT) (fun j hj=>?_) fun e0 e he=>?_
   ·rw[step,hr j hj,hr j0 hj0];show U k j0*(c0*V j+(sm (fun t=>c t*U t j) k+c k*U k j))-(c0*V j0+(sm (fun t=>c t*U t j0) k+c k*U k j0))*U k j=_;exact RE.eq [U k j0,c0*V j,sm (fun t=>c t*U t j) k,c k,U k j,c0*V j0,sm (fun t=>c t*U t j0) k] (t0*(t1+(t2+t3*t4))-(t5+(t6+t3*t0))*t4) (t0*(t1+t2)-t4*(t5+t6)) rfl
   ·have h:=hi (e0*U k j0) (fun t=>if t<k then e t*U k j0 else -(e0*V j0+sm (fun t=>e t*U t j0) k)) fun j hj=>by
     show _*V j+(sm _ k+(if k<k then _ else _)*U k j)=0;rw[if_neg (Nat.lt_irrefl k),Crg.sm_congr (g:=fun t=>U k j0*(e t*U t j)) fun t ht=>by
      rw[if_pos ht];exact RE.eq [e t,U k j0,U t j] (t0*t1*t2) (t1*(t0*t2)) rfl,<- Crg.mul_sm,<- he j hj,step]
     exact RE.eq [e0,U k j0,V j,sm (fun t=>e t*U t j) k,e0*V j0+sm (fun t=>e t*U t j0) k,U k j] (t0*t1*t2+(t1*t3 + -t4*t5)) (t1*(t0*t2+t3)-t5*t4) rfl
    exact(Fld.domain h).resolve_right h0
  ·have hz:∀ j,j<N->U k j=0:=fun j hj=>Classical.byContradiction fun e=>hx ⟨j,hj,e⟩;obtain⟨p,q,h1,h2,h3,h4⟩:=rel_fits k M N U V T c0 c (fun t j ht hj=>hU t j (by omega) hj) hV hT (fun j hj=>by
    rw[hr j hj];show c0*V j+(sm (fun t=>c t*U t j) k+c k*U k j)=_;rw[hz j hj,Rat.mul_zero,Rat.add_zero]) fun e0 e he=>hi e0 e fun j hj=>by
    show e0*V j+(sm (fun t=>e t*U t j) k+e k*U k j)=0;rw[hz j hj,Rat.mul_zero,Rat.add_zero];exact he j hj
   exact⟨p,q,h1,h2,Nat.le_trans h3 (es_up k),Nat.le_trans h4 (es_up k)⟩
theorem sm_skip {R : Type} [Crg R] (f : Nat → R) (t : Nat) : ∀ d, t < d → sm f d = f t + sm (fun i => f (if i < t then i else i + 1)) (d - 1)
 | 0,h=>absurd h (Nat.not_lt_zero t)
 | d+1,h=>by
  show sm f d+f d=_;rw[Nat.add_sub_cancel];rcases Nat.lt_or_ge t d with e | e
  ·obtain⟨c,rfl⟩:∃ c,d=c+1:=⟨d-1,by omega⟩;rw[sm_skip f t (c+1) e,Nat.add_sub_cancel];show _=f t+(sm _ c+f (if c<t then c else c+1));rw[if_neg (by omega),Crg.add_assoc]
  ·obtain rfl:t=d:=by omega
   rw[Crg.sm_congr (g:=f) (f:=fun i=>f (if i<t then i else i+1)) fun i hi=>by rw[if_pos hi],Crg.add_comm]
theorem Mn.fits {n m D E:Nat} {A:Nat->Nat->Rat} {f:Pol Rat} (h:Mn n A m f) (h0:0<D) (hD:D<=2^E) {M:Nat} (hM:∀ t i j,t<f.len->i<m->j<n->IntB M (((D^t:Nat):Rat)*mpw n A t i j)) {t:Nat} (ht:t+1<f.len):∃ p q:Int,q≠0/\f.f t*(q:Rat)=(p:Rat)/\p.natAbs<=es (f.len-2) M/\q.natAbs<=es (f.len-2) M*2^(E*(f.len-1)):=by
 obtain⟨d,hd⟩:∃ d,f.len=d+1:=⟨f.len-1,by omega⟩;have hP:∀ t,((D^t:Nat):Rat)≠0:=fun t=>by
  have:D^t≠0:=by have:=Nat.pow_pos (n:=t) h0;omega
  exact_mod_cast this
 have htd:t<d:=by omega
 rw[hd];rw[show d+1-2=d-1 by omega,Nat.add_sub_cancel];let sk:Nat->Nat:=fun i=>if i<t then i else i+1
 have sk1:∀ i,i<d-1->sk i<d:=fun i hi=>by show(if i<t then i else i+1)<d;split <;> omega
 have sk2:∀ i,sk i≠t:=fun i=>by show(if i<t then i else i+1)≠t;split <;> omega
 have hb:∀ j,j<m*n->j / n<m/\j%n<n:=fun j hj=>by
  have hn:0<n:=Nat.pos_of_ne_zero fun e=>by rw[e,Nat.mul_zero]at hj;omega
  exact⟨Nat.div_lt_of_lt_mul (by rw[Nat.mul_comm];exact hj),Nat.mod_lt _ hn⟩
 have hsum:∀ j,j<m*n->mpw n A d (j / n) (j%n) = -(sm (fun s=>f.f s*mpw n A s (j / n) (j%n)) d):=fun j hj=>by
  have e:=h.zero _ _ (hb j hj).1 (hb j hj).2;rw[Wk (Nat.le_of_eq hd)]at e;have e2:sm (fun s=>f.f s*mpw n A s (j / n) (j%n)) d+f.f d*mpw n A d (j / n) (j%n)=0:=e;have e3:f.f d=1:=by have:=h.mon.2;unfold lead at this;rwa [hd]at this
  rw[e3,Crg.one_mul]at e2;exact VY e2
 suffices S:∃ p q:Int,q≠0 /\ -(f.f t)*((D^(d-t):Nat):Rat)*(q:Rat)=(p:Rat)/\p.natAbs<=es (d-1) M/\q.natAbs<=es (d-1) M by
  obtain⟨p,q,q0,e1,b1,b2⟩:=S;refine⟨-p,(D^(d-t):Nat)*q,fun e=>?_,?_,by rw[Int.natAbs_neg];exact b1,?_⟩
  ·rcases Int.mul_eq_zero.1 e with e | e
   ·have:=Nat.pow_pos (n:=d-t) h0;omega
   ·exact q0 e
  ·rw[Rat.intCast_mul,Rat.intCast_neg,<- e1,Rat.intCast_natCast];exact RE.eq [f.f t,((D^(d-t):Nat):Rat),(q:Rat)] (t0*(t1*t2)) (-(-t0*t1*t2)) rfl
  ·rw[Int.natAbs_mul,Int.natAbs_natCast,Nat.mul_comm];refine Nat.mul_le_mul b2 (Nat.le_trans (Nat.pow_le_pow_left hD _) ?_);rw[<- Nat.pow_mul];exact Nat.pow_le_pow_right (by omega) (Nat.mul_le_mul_left E (by omega))
 refine rel_fits (d-1) M (m*n) (fun i j=>((D^sk i:Nat):Rat)*mpw n A (sk i) (j / n) (j%n)) (fun j=>((D^t:Nat):Rat)*mpw n A t (j / n) (j%n)) (fun j=>((D^d:Nat):Rat)*mpw n A d (j / n) (j%n)) (-(f.f t)*((D^(d-t):Nat):Rat)) (fun i => -(f.f (sk i))*((D^(d-sk i):Nat):Rat)) (fun i j hi hj=>hM _ _ _ (by have:=sk1 i hi;omega) (hb j hj).1 (hb j hj).2) (fun j hj=>hM _ _ _ (by omega) (hb j hj).1 (hb j hj).2) (fun j hj=>hM _ _ _ (by omega) (hb j hj).1 (hb j hj).2) (fun j hj=>?_) fun e0 e he=>?_
 ·have pw2:∀ s,s<d->((D^d:Nat):Rat)=((D^(d-s):Nat):Rat)*((D^s:Nat):Rat):=fun s hs=>by
   rw[<- Rat.natCast_mul,<- Nat.pow_add,show d-s+s=d by omega]
  show((D^d:Nat):Rat)*mpw n A d (j / n) (j%n)=_;rw[hsum j hj,sm_skip _ t d htd];show((D^d:Nat):Rat) * -(f.f t*mpw n A t (j / n) (j%n)+sm (fun i=>f.f (sk i)*mpw n A (sk i) (j / n) (j%n)) (d-1)) = -(f.f t)*((D^(d-t):Nat):Rat)*(((D^t:Nat):Rat)*mpw n A t (j / n) (j%n))+sm (fun i => -(f.f (sk i))*((D^(d-sk i):Nat):Rat)*(((D^sk i:Nat):Rat)*mpw n A (sk i) (j / n) (j%n))) (d-1);have e1:sm (fun i => -(f.f (sk i))*((D^(d-sk i):Nat):Rat)*(((D^sk i:Nat):Rat)*mpw n A (sk i) (j / n) (j%n))) (d-1)=((D^d:Nat):Rat) * -(sm (fun i=>f.f (sk i)*mpw n A (sk i) (j / n) (j%n)) (d-1)):=by
   rw[<- Crg.sm_neg,Crg.mul_sm];exact Crg.sm_congr fun i hi=>by
    rw[pw2 (sk i) (sk1 i hi)];exact RE.eq [f.f (sk i),((D^(d-sk i):Nat):Rat),((D^sk i:Nat):Rat),mpw n A (sk i) (j / n) (j%n)] (-t0*t1*(t2*t3)) (t1*t2 * -(t0*t3)) rfl
  rw[e1,pw2 t htd];exact RE.eq [f.f t,((D^(d-t):Nat):Rat),((D^t:Nat):Rat),mpw n A t (j / n) (j%n),sm (fun i=>f.f (sk i)*mpw n A (sk i) (j / n) (j%n)) (d-1)] (t1*t2 * -(t0*t3+t4)) (-t0*t1*(t2*t3)+t1*t2 * -t4) rfl
 ·-- a shorter polynomial with the same wk 0
  let g:Pol Rat:=⟨fun s=>if s=t then e0*((D^t:Nat):Rat)else if s<t then e s*((D^s:Nat):Rat)else if s<d then e (s-1)*((D^s:Nat):Rat)else 0,d,fun s hs=>by rw[if_neg (by omega),if_neg (by omega),if_neg (by omega)]⟩;have gl:g.len<=d:=Uq fun s hs=>by
   show(if s=t then _ else if s<t then _ else if s<d then _ else(0:Rat))=0;rw[if_neg (by omega),if_neg (by omega),if_neg (by omega)]
  have gk:∀ i,i<d-1->g.f (sk i)=e i*((D^sk i:Nat):Rat):=fun i hi=>by
   show(if sk i=t then _ else if sk i<t then _ else if sk i<d then _ else(0:Rat))=_;rw[if_neg (sk2 i)];have e5:sk i=if i<t then i else i+1:=rfl
   by_cases c:i<t
   ·rw[if_pos c]at e5;rw[if_pos (by omega),e5]
   ·rw[if_neg c]at e5;rw[if_neg (by omega),if_pos (by omega),show sk i-1=i by omega]
  have gz:∀ a b,a<m->b<n->evm n A g a b=0:=fun a b ha hb=>by
   have hj:a*n+b<m*n:=by
    have:=Nat.mul_le_mul_right n (show a+1<=m by omega);rw[Nat.succ_mul]at this;omega
   have h1:=he (a*n+b) hj;have q1:(a*n+b) / n=a:=by rw[Nat.mul_comm,Nat.mul_add_div (by omega),Nat.div_eq_of_lt hb,Nat.add_zero]
   have q2:(a*n+b)%n=b:=by rw[Nat.mul_comm,Nat.mul_add_mod,Nat.mod_eq_of_lt hb]
   rw[Wk gl,sm_skip _ t d htd];rw[q1,q2]at h1;have e6:(fun s=>g.f s*mpw n A s a b) t=e0*(((D^t:Nat):Rat)*mpw n A t a b):=by
    show(if t=t then e0*((D^t:Nat):Rat)else _)*mpw n A t a b=_;rw[if_pos rfl,Rat.mul_assoc]
   rw[<- h1];refine congr (congrArg _ e6) (Crg.sm_congr fun i hi=>?_);show g.f (sk i)*mpw n A (sk i) a b=_;rw[gk i hi,Rat.mul_assoc]
  have hg:=h.low g gz;have hg0:g=0:=Classical.byContradiction fun c=>by
   have:=hg.len c;omega
  have e7:g.f t=e0*((D^t:Nat):Rat):=if_pos rfl;rw[hg0]at e7;exact(Fld.domain e7.symm).resolve_right (hP t)
section
variable {K:Type} [Fld K]
section
variable {s l:Nat} {H:Nat->Nat->K}
end
end
noncomputable def chp (n:Nat) (A:Nat->Nat->Rat):Pol Rat:=hp (wd (hsn n A)) n
theorem chp_root (n:Nat) (A:Nat->Nat->Rat):Eqn n (evm n A (chp n A)) fun _ _=>0:=fun i j hi hj=>by
 have h:=(newt_hsn n A).root i j hi hj;rw[Wk (N:=n+1) (by rw[show(chp n A).len=n+1 from hp_len _ n];exact Nat.le_refl _)];exact h
end Mx
end Go.Proofs.YtkmbnldginonbaaGreat
namespace Go.Proofs.YtkmbnldginonbaaGreat
open Go.RowKit Crg
namespace Mx
open Rf
theorem IntB.zero (M:Nat):IntB M 0:=⟨0,rfl,Nat.zero_le M⟩
theorem IntB.sm {N : Nat} {f : Nat → Rat} : ∀ n, (∀ i, i < n → IntB N (f i)) → IntB (n * N) (Crg.sm f n)
 | 0,_=>IntB.zero _
 | n+1,h=>by
  obtain⟨a,ha,la⟩:=IntB.sm n fun i hi=>h i (by omega);obtain⟨b,hb,lb⟩:=h n (by omega);refine⟨a+b,?_,?_⟩
  ·show Crg.sm f n+f n=_;rw[ha,hb,Rat.intCast_add]
  ·rw[Nat.succ_mul];omega
theorem IntB.of_fits {D N:Nat} {x:Rat} (h:Fits D N x) (h0:0<D):IntB N ((D:Rat)*x):=by
 obtain⟨k,rfl,hk⟩:=h;refine⟨k,?_,hk⟩;have hD:(D:Rat)≠0:=by
  have:D≠0:=by omega
  exact_mod_cast this
 unfold zx;rw[Rat.intCast_natCast,Rat.div_def,Rat.mul_comm,Rat.mul_assoc,Rat.inv_mul_cancel _ hD,Rat.mul_one]
theorem mpw_int {n D N : Nat} {A : Nat → Nat → Rat} (h0 : 0 < D) (hA : ∀ i j, i < n → j < n → Fits D N (A i j)) : ∀ t i j, i < n → j < n → IntB ((n * N) ^ t) (((D ^ t : Nat) : Rat) * mpw n A t i j)
 | 0,i,j,_,_=>by
  rw[Nat.pow_zero,Nat.pow_zero];show IntB 1 (((1:Nat):Rat)*if i=j then 1 else 0);split
  ·exact⟨1,by rw[Rat.mul_one];rfl,Nat.le_refl 1⟩
  ·exact⟨0,by rw[Rat.mul_zero];rfl,by decide⟩
 | t+1,i,j,hi,hj=>by
  have e:((D^(t+1):Nat):Rat)*mpw n A (t+1) i j=Crg.sm (fun a=>(D:Rat)*A i a*(((D^t:Nat):Rat)*mpw n A t a j)) n:=by
   show _*Crg.sm (fun a=>A i a*mpw n A t a j) n=_;rw[Crg.mul_sm];refine Crg.sm_congr fun a _=>?_;rw[Nat.pow_succ,Rat.natCast_mul];exact RE.eq [((D^t:Nat):Rat),(D:Rat),A i a,mpw n A t a j] (t0*t1*(t2*t3)) (t1*t2*(t0*t3)) rfl
  rw[e,Nat.pow_succ,show(n*N)^t*(n*N)=n*(N*(n*N)^t)by rw[Nat.mul_comm,Nat.mul_assoc]];exact IntB.sm n fun a ha=>(IntB.of_fits (hA i a hi ha) h0).mul (mpw_int h0 hA t a j ha hj)
theorem kK {x:Rat} {p q:Int} (q0:q≠0) (e:x*(q:Rat)=(p:Rat)):Fits q.natAbs p.natAbs x:=by
 have key:∀(d:Nat) (k:Int),0<d->x*(d:Rat)=(k:Rat)->x=zx k d:=fun d k hd hk=>by
  have hD:(d:Rat)≠0:=by
   have:d≠0:=by omega
   exact_mod_cast this
  unfold zx;rw[Rat.intCast_natCast,Rat.div_def,<- hk,Rat.mul_assoc,Rat.mul_inv_cancel _ hD,Rat.mul_one]
 rcases Int.lt_or_gt_of_ne q0 with h | h
 ·refine⟨-p,key q.natAbs (-p) (by omega) ?_,by omega⟩;have e2:((q.natAbs:Nat):Rat)=((-q:Int):Rat):=by rw[<- Rat.intCast_natCast,show((q.natAbs:Nat):Int) = -q by omega]
  rw[e2,Rat.intCast_neg,Rat.intCast_neg,<- e,Rat.mul_neg]
 ·refine⟨p,key q.natAbs p (by omega) ?_,by omega⟩;have e2:((q.natAbs:Nat):Rat)=(q:Rat):=by rw[<- Rat.intCast_natCast,show((q.natAbs:Nat):Int)=q by omega]
  rw[e2,e]
theorem fits_le {D N e k:Nat} {x:Rat} (h:Fits D N x) (h0:0<D) (hD:D<=2^e) (hN:N<=2^e) (he:e<32*k):qlen x<=k:=by
 have h1:=h.small h0;have hB:=lt_B (e:=e) (L:=k) he;have a:qB x.num<=k:=VG (Nat.lt_of_le_of_lt (Nat.le_trans h1.1 hN) hB);have b:qB (x.den:Int)<=k:=VG (Nat.lt_of_le_of_lt (Nat.le_trans h1.2 hD) hB);show max (qB x.num) (qB (x.den:Int))<=k;omega
theorem Mn.len {n m:Nat} {A:Nat->Nat->Rat} {f:Pol Rat} (h:Mn n A m f) (hm:m<=n):f.len<=n+1:=by
 have hl:(chp n A).len=n+1:=hp_len _ n;have:=(h.low (chp n A) fun i j hi hj=>chp_root n A i j (by omega) hj).len (Pol.ne_of_len (by omega));omega
theorem es_k (M : Nat) : ∀ {k l : Nat}, k ≤ l → es k M ≤ es l M
 | k,l,h=>by
  induction l with
  | zero=>rw[Nat.le_zero.1 h];exact Nat.le_refl _
  | succ l ih =>
   rcases Nat.lt_or_ge k (l+1)with e | e
   ·exact Nat.le_trans (ih (by omega)) (es_up l)
   ·rw[show k=l+1 by omega];exact Nat.le_refl _
/-! Exponents by name. -/
def xM:Nat:=4015
def xN:Nat:=64256
def xQ:Nat:=68256
def xP:Nat:=8030
def xR:Nat:=4000
structure Sm5 (n : Nat) (A : Nat → Nat → Rat) (D E : Nat) : Prop where
 hn:n<=5
 hE:E<=800
 h0:0<D
 hD:D<=2^E
 hA:∀ i j,i<n->j<n->Fits D (2^E) (A i j)
variable {n:Nat} {A:Nat->Nat->Rat} {D E:Nat}
theorem Sm5.pow (h:Sm5 n A D E) (t:Nat):(n*2^E)^t<=2^((3+E)*t):=VF (kY (show n<=2^3 by have:=h.hn;omega) (Nat.le_refl _))
theorem Sm5.pwl (h:Sm5 n A D E) {t i j:Nat} (ht:t<=10) (hi:i<n) (hj:j<n):qlen (mpw n A t i j)<=251:=by
 have hE:=h.hE;obtain⟨k,hk,lk⟩:=mpw_int h.h0 h.hA t i j hi hj;have hq:((D^t:Nat):Int)≠0:=by have:=Nat.pow_pos (n:=t) h.h0;omega
 have f:=kK (x:=mpw n A t i j) (p:=k) hq (by rw[Rat.intCast_natCast,Rat.mul_comm];exact hk);have e1:(3+E)*t<=xP:=Nat.mul_le_mul (show 3+E<=803 by omega) ht;have e2:E*t<=xP:=Nat.le_trans (Nat.mul_le_mul_right t (by omega)) e1;exact fits_le (e:=xP) f (by omega) (by rw[Int.natAbs_natCast];exact Nat.le_trans (VF h.hD) (kV e2)) (Nat.le_trans lk (Nat.le_trans (h.pow t) (kV e1))) (by decide)
theorem Sm5.fit (h:Sm5 n A D E) {m:Nat} {f:Pol Rat} (hf:Mn n A m f) (hm:m<=n) {t:Nat} (ht:t+1<f.len):∃ Q,0<Q/\Q<=2^xQ/\Fits Q (2^xN) (f.f t):=by
 have hE:=h.hE;have hn:=h.hn;have hl:=hf.len hm;obtain⟨p,q,q0,e,l1,l2⟩:=hf.fits h.h0 h.hD (M:=2^xM) (fun t i j ht hi hj=>(mpw_int h.h0 h.hA t i j (by omega) hj).mono (Nat.le_trans (h.pow t) (kV (Nat.mul_le_mul (show 3+E<=803 by omega) (show t<=5 by omega))))) ht;have e4:es (f.len-2) (2^xM)<=2^xN:=Nat.le_trans (Nat.le_trans (es_k _ (show f.len-2<=4 by omega)) (es_two 4 xM)) (kV (by decide));refine⟨q.natAbs,by omega,Nat.le_trans l2 ?_,(kK q0 e).mono (Nat.le_trans l1 e4)⟩;have e5:2^(E*(f.len-1))<=2^xR:=kV (Nat.mul_le_mul (show E<=800 by omega) (show f.len-1<=5 by omega));exact Nat.le_trans (Nat.mul_le_mul e4 e5) (by rw[<- Nat.pow_add];exact kV (by decide))
theorem Sm5.coef (h:Sm5 n A D E) {m:Nat} {f:Pol Rat} (hf:Mn n A m f) (hm:m<=n) (t:Nat):qlen (f.f t)<=2200:=by
 rcases Nat.lt_trichotomy (t+1) f.len with c | c | c
 ·obtain⟨Q,h1,h2,h3⟩:=h.fit hf hm c;exact fits_le (e:=xQ) h3 h1 h2 (kV (by decide)) (by decide)
 ·have:=hf.mon.2;unfold Pol.lead at this;rw[show t=f.len-1 by omega,this];exact Nat.le_trans q_one (by decide)
 ·rw[Pol.len_out f t (by omega)];exact Nat.le_trans Uy (by decide)
theorem sm_len {f : Nat → Rat} {L : Nat} : ∀ n, (∀ i, i < n → qlen (f i) ≤ L) → qlen (Crg.sm f n) ≤ n * (L + 1) + 1
 | 0,_=>by
  show qlen 0<=_;exact Nat.le_trans Uy (by omega)
 | n+1,h=>by
  have h1:=sm_len n fun i hi=>h i (by omega);have h2:=h n (by omega);refine Nat.le_trans (q_add h1 h2 (by omega)) ?_;rw[Nat.succ_mul];omega
theorem Sm5.evm (h:Sm5 n A D E) {f:Nat->Rat} {L N r:Nat} (hf:∀ t,qlen (f t)<=L) (h1:1<=L) (hN:N<=6) (hr:r<=5) {i j:Nat} (hi:i<n) (hj:j<n):qlen (Crg.sm (fun t=>f t*mpw n A (t+r) i j) N)<=6*(L+251+1)+1:=by
 have e:=sm_len (f:=fun t=>f t*mpw n A (t+r) i j) (L:=L+251) N fun t ht=>kb (hf t) (h.pwl (by omega) hi hj) (by omega);exact Nat.le_trans e (Nat.succ_le_succ (Nat.mul_le_mul_right (L+251+1) hN))
theorem hrn_evm {T : Nat} {F : Nat → Rat} : ∀ t i j, t ≤ T → i < n → j < n → hrn n T F A t i j = Crg.sm (fun k => F (T - t + k) * mpw n A k i j) t
 | 0,_,_,_,_,_=>by rw[(hrn_hor n T F A).zero];rfl
 | t+1,i,j,ht,hi,hj=>by
  rw[(hrn_hor n T F A).step t i j (by omega),Crg.sm_head];have e1:F (T-(t+1)+0)*mpw n A 0 i j=F (T-1-t)*jk i j:=by
   rw[show T-(t+1)+0=T-1-t by omega];rfl
  have e2:xY (hrn n T F A t i) A n j=Crg.sm (fun k=>F (T-(t+1)+(k+1))*mpw n A (k+1) i j) t:=by
   show Q.su (fun a=>hrn n T F A t i a*A a j) n=_;rw[Vy,Crg.sm_congr (g:=fun a=>Crg.sm (fun k=>F (T-t+k)*mpw n A k i a*A a j) t) fun a ha=>by rw[hrn_evm t i a (by omega) hi ha,Crg.sm_mul],Crg.sm_swap];refine Crg.sm_congr fun k _=>?_;have e3:=mpw_add A k 1 i j hi hj;rw[<- e3,show mm n (mpw n A k) (mpw n A 1) i j=mm n (mpw n A k) A i j from Crg.sm_congr fun a ha=>by rw[show mpw n A 1 a j=A a j from mm_I hj a],show T-(t+1)+(k+1)=T-t+k by omega];unfold mm;rw[Crg.mul_sm];exact Crg.sm_congr fun a _=>Rat.mul_assoc _ _ _
  rw[e1,e2];exact Rat.add_comm _ _
theorem sumR_len {x:Nat->Rat} {B:Nat->Nat->Rat} {L L' i j:Nat} (hi:i<=5) (h1:1<=L) (hx:∀ a,a<i->qlen (x a)<=L) (hB:∀ a,a<i->qlen (B a j)<=L'):qlen (xY x B i j)<=5*(L+L'+1)+1:=by
 show qlen (Q.su (fun a=>x a*B a j) i)<=_;rw[Vy];have e:=sm_len (f:=fun a=>x a*B a j) (L:=L+L') i fun a ha=>kb (hx a ha) (hB a ha) (by omega);exact Nat.le_trans e (by
  have:=Nat.mul_le_mul_right (L+L'+1) hi;omega)
theorem Sm5.one (h:Sm5 n A D E) {i j:Nat} (hi:i<n) (hj:j<n):qlen (A i j)<=251:=by
 have:=h.pwl (t:=1) (by decide) hi hj;rwa [show mpw n A 1 i j=A i j from mm_I hj i]at this
theorem at_pol (h:Sm5 n A D E) {p:Nat->RawR} (hp:∀ a,a<n*n->(p a).Fit KD) (hpv:∀ i j,i<n->j<n->(p (i*n+j)).val=A i j) {f:Pol Rat} {L:Nat} (hl:f.len<=6) (hf:∀ t,qlen (f.f t)<=L) (h1:1<=L) (hL:L<=1000000):FnOK Tryz.prog true 27 [.c (nql f.len f.f),.g (qG n n p)] (.t2 (.g (zj n n (evm n A f))) (.c (.int .i64 0))):=by
 have hn:=h.hn;have hT:Q.tq f.f f.len=f.len:=Q.tq_self fun k hk=>Pol.len_top f hk;have hH:∀ t i j,t<=f.len->i<n->j<n->qlen (hrn n f.len f.f A t i j)<=6*(L+251+1)+1:=fun t i j ht hi hj=>by
  rw[hrn_evm t i j ht hi hj];exact h.evm (f:=fun k=>f.f (f.len-t+k)) (r:=0) (fun k=>hf _) h1 (by omega) (by decide) hi hj
 have k:=at_ok (n:=n) (N:=f.len) (T:=f.len) (q:=fun i=>ofR (f.f i)) (p:=p) (F:=f.f) (A:=A) (H:=hrn n f.len f.f A) (by omega) (by omega) (funext fun i=>qP _) hT (by omega) (fun i _=>zX (Nat.le_trans (hf i) (by show L<=67108864;omega))) hp hpv (fun i j hi hj=>Nat.le_trans (h.one hi hj) (by decide)) (fun i _=>Nat.le_trans (hf i) (by show L<=67108864;omega)) (fun t i j ht hi hj=>Nat.le_trans (hH t i j ht hi hj) (by show _<=67108864;omega)) (fun t r i j ht hr hi hj=>Nat.le_trans (sumR_len (L:=6*(L+251+1)+1) (L':=251) (by omega) (by omega) (fun a ha=>hH t r a (by omega) hr (by omega)) fun a ha=>h.one (by omega) hj) (by show _<=67108864;omega)) (hrn_hor n f.len f.f A);refine k.res fun D' w v ⟨x,y,e1,e2,e3⟩=>⟨x,y,e1,matL_eq (fun i j hi hj=>?_) D' w x e2,e3⟩;rw[hrn_evm f.len i j (Nat.le_refl _) hi hj];exact Crg.sm_congr fun t _=>by rw[Nat.sub_self,Nat.zero_add]
theorem mul_pol {f g:Pol Rat} {L L':Nat} (hf0:0<f.len) (hg0:0<g.len) (hl:f.len<=7) (hl':g.len<=7) (hf:∀ t,qlen (f.f t)<=L) (hg:∀ t,qlen (g.f t)<=L') (h1:1<=L) (hL:16*L+16*L'+64<=LIM):FnOK Tryz.prog true 66 [.c (nql f.len f.f),.c (nql g.len g.f)] (.c (nql (f*g).len (f*g).f)):=by
 have e1:Q.cf f.f g.f=(f*g).f:=funext fun k=>by
  show Q.su (fun i=>f.f i*g.f (k-i)) (k+1)=_;rw[Vy];rfl
 have e2:=Pol.len_mul (Pol.ne_of_len hf0) (Pol.ne_of_len hg0);have fin:∀ {a:Pol Rat},Q.Fin a.len a.f:=fun {a} t ht=>Pol.len_out a t ht;have k:=qpMul_ok (n:=f.len) (m:=g.len) (q:=fun i=>ofR (f.f i)) (p:=fun i=>ofR (g.f i)) (L:=L+L') (K:=7*(L+L'+1)+1) (F:=f.f) (G:=g.f) (by rw[show(fun i=>(ofR (f.f i)).val)=f.f from funext fun i=>qP _];exact Q.qx_self fin) (by rw[show(fun i=>(ofR (g.f i)).val)=g.f from funext fun i=>qP _];exact Q.qx_self fin) (by omega) (by omega) (fun i _=>zX (Nat.le_trans (hf i) (by omega))) (fun i _=>zX (Nat.le_trans (hg i) (by omega))) (by omega) (fun i k hi=>by
  show qlen (Q.su (fun a=>if a<=k then f.f a*g.f (k-a)else 0) i)<=_;rw[Vy];refine Nat.le_trans (sm_len (L:=L+L') i fun a _=>?_) (by have:=Nat.mul_le_mul_right (L+L'+1) (show i<=7 by omega);omega);split
  ·exact kb (hf a) (hg _) (by omega)
  ·exact Nat.le_trans Uy (by omega)) (by omega)
 rw[e1,show f.len+g.len-1=(f*g).len by omega,Q.tq_self fun k hk=>Pol.len_top (f*g) hk]at k;exact k
theorem evv_row (f:Pol Rat) (i r j:Nat) (hj:j<n) (hi:i<n):av n A (evm n A f i) r j=Crg.sm (fun t=>f.f t*mpw n A (t+r) i j) f.len:=by
 rw[av_mpw _ r j hj];show Crg.sm (fun a=>Crg.sm (fun t=>f.f t*mpw n A t i a) f.len*mpw n A r a j) n=_;rw[Crg.sm_congr (g:=fun a=>Crg.sm (fun t=>f.f t*mpw n A t i a*mpw n A r a j) f.len) fun a _=>Crg.sm_mul (mpw n A r a j) (fun t=>f.f t*mpw n A t i a) f.len];have e0:=Crg.sm_swap (fun a t=>f.f t*mpw n A t i a*mpw n A r a j) f.len n;rw[e0];refine Crg.sm_congr fun t _=>?_;rw[<- mpw_add A t r i j hi hj];unfold mm;rw[Crg.mul_sm];exact Crg.sm_congr fun a _=>Rat.mul_assoc _ _ _
def Rnd (n:Nat) (A:Nat->Nat->Rat) (p:Nat->RawR) (i:Nat) (f g:Pol Rat):Prop:=Ann n A (evm n A f i) g/\g.len<=n+1/\(∀ t,qlen (g.f t)<=8192*14713)/\FnOK Tryz.prog true 67 [.g (qG n n p),.c (nql n (evm n A f i))] (.c (nql g.len g.f))
theorem rnd_ex (h:Sm5 n A D E) {p:Nat->RawR} (hp:∀ a,a<n*n->(p a).Fit KD) (hpv:∀ i j,i<n->j<n->(p (i*n+j)).val=A i j) {i:Nat} {f:Pol Rat} (hf:Mn n A i f) (hi:i<n):∃ g,Rnd n A p i f g:=by
 have hn:=h.hn;have hl:=hf.len (Nat.le_of_lt hi);have hc:=h.coef hf (Nat.le_of_lt hi);have hV:∀ r j,r<=n->j<n->qlen (av n A (evm n A f i) r j)<=14713:=fun r j hr hj=>by
  rw[evv_row f i r j hj hi];exact h.evm hc (by decide) (by omega) (by omega) hi hj
 exact ann_ok (L:=14713) (by omega) hp hpv (fun i j hi hj=>Nat.le_trans (h.one hi hj) (by decide)) hV (by decide) (by decide) fun r i j hr hi hj=>Nat.le_trans (sumR_len (L:=14713) (L':=251) (by omega) (by decide) (fun a ha=>hV r a (by omega) (by omega)) fun a ha=>h.one (by omega) hj) (by decide)
open Classical in
theorem min_ok (h:Sm5 n A D E) {p:Nat->RawR} (hp:∀ a,a<n*n->(p a).Fit KD) (hpv:∀ i j,i<n->j<n->(p (i*n+j)).val=A i j):∃ μ:Pol Rat,Mn n A n μ/\FnOK Tryz.prog true 20 [.g (qG n n p)] (.t2 (.c (nql μ.len μ.f)) (.c (.int .i64 0))):=by
 have hn:=h.hn;let G:Nat->Pol Rat->Pol Rat:=fun i f=>if h:∃ g,Rnd n A p i f g then h.choose else 1
 let f:Nat->Pol Rat:=fun i=>Nat.rec (1:Pol Rat) (fun i f=>f*G i f) i;have fs:∀ i,f (i+1)=f i*G i (f i):=fun _=>rfl;have key:∀ i,i<=n->Mn n A i (f i):=by
  intro i;induction i with
  | zero=>intro _;exact Mn.start
  | succ i ih =>
   intro hi;have hm:=ih (by omega);have hx:=rnd_ex h hp hpv hm (by omega);have e:G i (f i)=hx.choose:=dif_pos hx;rw[fs,e];exact hm.step (by omega) hx.choose_spec.1
 have rn:∀ i,i<n->Rnd n A p i (f i) (G i (f i)):=fun i hi=>by
  have hx:=rnd_ex h hp hpv (key i (by omega)) hi;have e:G i (f i)=hx.choose:=dif_pos hx;rw[e];exact hx.choose_spec
 have W:Mpw n p f (fun i=>G i (f i)) (fun i=>evm n A (f i)):=by
  refine⟨by omega,rfl,fun i hi=>?_,fun i hi=>?_,fun i hi=>(rn i hi).2.2.2,fun i hi=>?_⟩
  ·exact at_pol h hp hpv (by have:=(key i (by omega)).len (by omega);omega) (h.coef (key i (by omega)) (by omega)) (by decide) (by decide)
  ·refine row_n (by omega) hi fun j hj=>?_;exact Nat.le_trans (h.evm (r:=0) (h.coef (key i (by omega)) (by omega)) (by decide) (by have:=(key i (by omega)).len (by omega);omega) (by decide) hi hj) (by decide)
  ·have k1:=key i (by omega);obtain⟨g1,g2,g3,-⟩:=rn i hi;exact mul_pol k1.mon.1 g1.mon.1 (by have:=k1.len (by omega);omega) (by omega) (h.coef k1 (by omega)) g3 (by decide) (by decide)
 exact⟨f n,key n (Nat.le_refl n),min_walk W⟩
end Mx
end Go.Proofs.YtkmbnldginonbaaGreat
namespace Go.Proofs.YtkmbnldginonbaaGreat
open Go.RowKit Crg
namespace Mx
open Rf
def RowF (m b:Nat) (r:Nat->Rat):Prop:=∃ D:Nat,0<D/\D<=2^b/\∀ j,j<m->Fits D (2^b) (r j)
theorem RowF.mono {m b c:Nat} {r:Nat->Rat} (h:RowF m b r) (hb:b<=c):RowF m c r:=by
 obtain⟨D,h1,h2,h3⟩:=h;exact⟨D,h1,Nat.le_trans h2 (kV hb),fun j hj=>(h3 j hj).mono (kV hb)⟩
theorem RowF.int {m b:Nat} {r:Nat->Rat} (h:RowF m b r):∃ D:Nat,0<D/\D<=2^b/\∀ j,j<m->IntB (2^b) ((D:Rat)*r j):=by
 obtain⟨D,h1,h2,h3⟩:=h;exact⟨D,h1,h2,fun j hj=>IntB.of_fits (h3 j hj) h1⟩
theorem RowF.pv {m b c:Nat} {r:Nat->Rat} (h:RowF m b r) (hc:c<m) (h0:r c≠0):RowF m b (gpv c r):=by
 obtain⟨D,h1,h2,h3⟩:=h.int;obtain⟨q,eq,bq⟩:=h3 c hc;have hD:(D:Rat)≠0:=by
  have:D≠0:=by omega
  exact_mod_cast this
 have q0:q≠0:=fun e=>by
  rw[e]at eq;exact(Fld.domain (show(D:Rat)*r c=0 from eq)).elim hD h0
 refine⟨q.natAbs,by omega,bq,fun j hj=>?_⟩;obtain⟨p,ep,bp⟩:=h3 j hj;refine(kK (x:=gpv c r j) (p:=p) q0 ?_).mono bp;rw[<- eq,<- ep];have e1:r c*Fld.inv (r c)=1:=Fld.mul_inv _ h0;have e2:gpv c r j*((D:Rat)*r c)=(r c*Fld.inv (r c))*((D:Rat)*r j):=RE.eq [Fld.inv (r c),r j,(D:Rat),r c] (t0*t1*(t2*t3)) (t3*t0*(t2*t1)) rfl;rw[e2,e1,one_mul]
theorem RowF.cl {m a b c:Nat} {r p:Nat->Rat} (h:RowF m a r) (g:RowF m b p) (hc:c<m):RowF m (a+b+1) (gcl c p r):=by
 obtain⟨D,h1,h2,h3⟩:=h.int;obtain⟨E,g1,g2,g3⟩:=g.int;have hDE:((D*E:Nat):Int)≠0:=by have:=Nat.mul_pos h1 g1;omega
 refine⟨D*E,Nat.mul_pos h1 g1,Nat.le_trans (kY h2 g2) (kV (by omega)),fun j hj=>?_⟩;obtain⟨rc,e1,b1⟩:=h3 c hc;obtain⟨rj,e2,b2⟩:=h3 j hj;obtain⟨pj,e3,b3⟩:=g3 j hj;have key:gcl c p r j*(((D*E:Nat):Int):Rat)=((rj*E-rc*pj:Int):Rat):=by
  rw[Rat.intCast_natCast,Rat.natCast_mul,Rat.intCast_sub,Rat.intCast_mul,Rat.intCast_mul,<- e1,<- e2,<- e3,Rat.intCast_natCast];exact RE.eq [r j,r c,p j,(D:Rat),(E:Rat)] ((t0 + -t1*t2)*(t3*t4)) (t3*t0*t4-t3*t1*(t4*t2)) rfl
 have f:=kK hDE key;rw[Int.natAbs_natCast]at f;refine f.mono ?_;have l1:(rj*(E:Int)).natAbs<=2^(a+b):=by rw[Int.natAbs_mul,Int.natAbs_natCast];exact kY b2 g2
 have l2:(rc*pj).natAbs<=2^(a+b):=by rw[Int.natAbs_mul];exact kY b1 b3
 have e5:2^(a+b+1)=2^(a+b)+2^(a+b):=by rw[Nat.pow_succ];omega
 generalize 2^(a+b)=X at *;omega
theorem RowF.len {m b k:Nat} {r:Nat->Rat} (h:RowF m b r) (hb:b<32*k) {j:Nat} (hj:j<m):qlen (r j)<=k:=by
 obtain⟨D,h1,h2,h3⟩:=h;exact fits_le (e:=b) (h3 j hj) h1 h2 (Nat.le_refl _) hb
def bt (b : Nat) : Nat → Nat
 | 0=>b
 | p+1=>bt b p+bt b p+1
theorem bt_mono (b:Nat) {p q:Nat} (h:p<=q):bt b p<=bt b q:=by
 induction q with
 | zero=>rw[Nat.le_zero.1 h];exact Nat.le_refl _
 | succ q ih =>
  rcases Nat.lt_or_ge p (q+1)with e | e
  ·have:=ih (by omega);show bt b p<=bt b q+bt b q+1;omega
  ·rw[show p=q+1 by omega];exact Nat.le_refl _
theorem Vb {c:Nat} {s:Gs Rat} {l m:List (Rw Rat)} {r:Rw Rat} (h:wZ c s.a=some (l,r,m)):gQ c s=⟨(l++m).map (gcl c (gpv c r)),s.o.map (fun x=>(gcl c (gpv c r) x.1,x.2))++[(gpv c r,c)]⟩:=by
 unfold gQ;rw[h]
theorem gstep_n {c:Nat} {s:Gs Rat} (h:wZ c s.a=none):gQ c s=s:=by
 unfold gQ;rw[h]
theorem gred_len {m b : Nat} {a0 : List (Rw Rat)} (h : ∀ r ∈ a0, RowF m b r) : ∀ c, c ≤ m → (∀ r ∈ (zy a0 c).a, RowF m (bt b (zy a0 c).o.length) r) ∧ (∀ x ∈ (zy a0 c).o, RowF m (bt b (zy a0 c).o.length) x.1) ∧ (zy a0 c).a.length + (zy a0 c).o.length = a0.length
 | 0,_=>⟨h,fun _ hx=>absurd hx (by show ¬ _∈[];simp),by show a0.length+0=_;omega⟩
 | c+1,hc=>by
  obtain⟨h1,h2,h3⟩:=gred_len h c (by omega);show(∀ r∈(gQ c (zy a0 c)).a,RowF m (bt b (gQ c (zy a0 c)).o.length) r)/\(∀ x∈(gQ c (zy a0 c)).o,RowF m (bt b (gQ c (zy a0 c)).o.length) x.1)/\(gQ c (zy a0 c)).a.length+(gQ c (zy a0 c)).o.length=a0.length;rcases hf:wZ c (zy a0 c).a with _ | ⟨l,r,k⟩
  ·rw[gstep_n hf];exact⟨h1,h2,h3⟩
  ·rw[Vb hf];obtain⟨f1,f2,f3⟩:=kZ hf;have hr:RowF m (bt b (zy a0 c).o.length) r:=h1 r (by rw[f1];simp);have hp:=hr.pv (show c<m by omega) f2;have hl:((zy a0 c).o.map (fun x=>(gcl c (gpv c r) x.1,x.2))++[(gpv c r,c)]).length=(zy a0 c).o.length+1:=by simp
   refine⟨fun q hq=>?_,fun x hx=>?_,?_⟩
   ·obtain⟨u,hu,rfl⟩:=List.mem_map.1 hq;rw[hl];exact(h1 u (by rw[f1];rcases List.mem_append.1 hu with e | e;exact List.mem_append.2 (.inl e);exact List.mem_append.2 (.inr (List.mem_cons_of_mem _ e)))).cl hp (by omega)
   ·rw[hl];rcases List.mem_append.1 hx with e | e
    ·obtain⟨y,hy,rfl⟩:=List.mem_map.1 e;exact(h2 y hy).cl hp (by omega)
    ·rw[List.mem_singleton]at e;rw[e];exact hp.mono (by show bt b _<=bt b _+bt b _+1;omega)
   ·rw[hl];have e1:(zy a0 c).a.length=l.length+k.length+1:=by rw[f1];simp;omega
    show((l++k).map _).length+_=_;simp only[List.length_map,List.length_append];omega
theorem v9 {α:Type} {l:List α} {i:Nat} {d:α} (h:i<l.length):l.getD i d∈l:=by
 rw[List.getD_eq_getElem?_getD,List.getElem?_eq_getElem h];exact List.getElem_mem h
theorem gred_stop {a0 : List (Rw Rat)} {c : Nat} (h : (zy a0 c).a.length = 0) : ∀ d, zy a0 (c + d) = zy a0 c
 | 0=>rfl
 | d+1=>by
  have ih:=gred_stop h d;show gQ (c+d) (zy a0 (c+d))=_;rw[ih];have e:(zy a0 c).a=[]:=List.length_eq_zero_iff.1 h;exact gstep_n (by rw[e];rfl)
theorem reduce_ok {m b:Nat} {a0:List (Rw Rat)} (hm:m<=1024) (ha:a0.length<=6) (h:∀ r∈a0,RowF m b r) (hb:bt b 6<1920000):FnOK Tryz.prog false 124 [.c (.int .i64 (m:Nat)),.c (.row 1 a0.length (rlF m fun i=>a0.getD i fun _=>0))] (.t2 (.c (.row 1 (zy a0 m).o.length (rlF m fun i=>((zy a0 m).o.getD i (fun _=>0,0)).1))) (.c (.row 1 (zy a0 m).o.length (plF fun i=>((zy a0 m).o.getD i (fun _=>0,0)).2)))):=by
 have L:=gred_len h;have I:=Vq a0;have hbt:∀ c,c<=m->bt b (zy a0 c).o.length<32*60000:=fun c hc=>Nat.lt_of_le_of_lt (bt_mono b (show(zy a0 c).o.length<=6 by have:=(L c hc).2.2;omega)) hb;let κ:Nat->Nat:=fun c=>match wZ c (zy a0 c).a with
  | none=>(zy a0 c).a.length
  | some x=>x.1.length
 let ρ:Nat->Nat->Rat:=fun c=>gpv c ((zy a0 c).a.getD (κ c) fun _=>0);have kn:∀ c,wZ c (zy a0 c).a=none->κ c=(zy a0 c).a.length:=fun c e=>by
  show(match wZ c (zy a0 c).a with | none=>(zy a0 c).a.length | some x=>x.1.length)=_;rw[e]
 have ks:∀ c l r k,wZ c (zy a0 c).a=some (l,r,k)->κ c=l.length/\(zy a0 c).a.getD (κ c) (fun _=>0)=r/\(zy a0 c).a.length=l.length+k.length+1:=fun c l r k e=>by
  have e1:κ c=l.length:=by
   show(match wZ c (zy a0 c).a with | none=>(zy a0 c).a.length | some x=>x.1.length)=_;rw[e]
  obtain⟨f1,-,-⟩:=kZ e;refine⟨e1,?_,by rw[f1];simp;omega⟩;rw[e1,f1];simp
 have kc:∀ c,κ c<(zy a0 c).a.length->∃ l r k,wZ c (zy a0 c).a=some (l,r,k):=fun c hc=>by
  rcases hf:wZ c (zy a0 c).a with _ | ⟨l,r,k⟩
  ·have:=kn c hf;omega
  ·exact⟨l,r,k,rfl⟩
 refine reduce_walk (N:=fun c=>(zy a0 c).a.length) (R:=fun c=>(zy a0 c).o.length) (κ:=κ) (α:=fun c i=>(zy a0 c).a.getD i fun _=>0) (ω:=fun c i=>((zy a0 c).o.getD i (fun _=>0,0)).1) (π:=fun c i=>((zy a0 c).o.getD i (fun _=>0,0)).2) (ρ:=ρ) ⟨hm,fun c hc=>by have:=(L c hc).2.2;show(zy a0 c).a.length<=1024;omega,fun c hc=>by have:=(L c hc).2.2;show(zy a0 c).o.length<=1024;omega,rfl,fun c hc=>?_,fun c j hc hj=>?_,fun c hc hk=>?_,fun c hc hk=>?_,fun c hc hk=>?_,fun c hc hk i hi=>?_,fun c hc hk i hi=>?_,fun c hc hk=>?_,fun c hc hk i hi=>?_,fun c hc hk=>?_,fun c hc h0=>?_,fun c i j hc hi hj=>((L c hc).1 _ (v9 hi)).len (hbt c hc) hj,fun c i j hc hi hj=>((L c hc).2.1 _ (v9 hi)).len (hbt c hc) hj,fun c j hc hk hj=>?_,fun c j hc hk hj=>?_⟩
 ·show κ c<=(zy a0 c).a.length;rcases hf:wZ c (zy a0 c).a with _ | ⟨l,r,k⟩
  ·rw[kn c hf];exact Nat.le_refl _
  ·obtain⟨e1,-,e3⟩:=ks c l r k hf;omega
 ·show(zy a0 c).a.getD j (fun _=>0) c=0;rcases hf:wZ c (zy a0 c).a with _ | ⟨l,r,k⟩
  ·exact gfind_none hf _ (v9 (by rw[<- kn c hf];exact hj))
  ·obtain⟨e1,-,-⟩:=ks c l r k hf;obtain⟨f1,-,f3⟩:=kZ hf;have hj:j<l.length:=by rw[<- e1];exact hj
   rw[f1,List.getD_eq_getElem?_getD,List.getElem?_append_left hj,<- List.getD_eq_getElem?_getD];exact f3 _ (v9 hj)
 ·obtain⟨l,r,k,hf⟩:=kc c hk;obtain⟨-,e2,-⟩:=ks c l r k hf;show(zy a0 c).a.getD (κ c) (fun _=>0) c≠0;rw[e2];exact(kZ hf).2.1
 ·have hf:wZ c (zy a0 c).a=none:=by
   rcases hf:wZ c (zy a0 c).a with _ | ⟨l,r,k⟩
   ·rfl
   ·obtain⟨e1,-,e3⟩:=ks c l r k hf;have hk:κ c=(zy a0 c).a.length:=hk;omega
  have e:zy a0 (c+1)=zy a0 c:=gstep_n hf;simp only[e,and_self]
 ·obtain⟨l,r,k,hf⟩:=kc c hk;obtain⟨-,-,e3⟩:=ks c l r k hf;have e:zy a0 (c+1)=_:=Vb hf;refine⟨?_,?_⟩
  ·show(zy a0 (c+1)).a.length=(zy a0 c).a.length-1;rw[e];show((l++k).map _).length=_;rw[List.length_map,List.length_append];omega
  ·show(zy a0 (c+1)).o.length=(zy a0 c).o.length+1;rw[e];simp
 ·obtain⟨l,r,k,hf⟩:=kc c hk;obtain⟨e1,e2,e3⟩:=ks c l r k hf;obtain⟨f1,-,-⟩:=kZ hf;have e:zy a0 (c+1)=_:=Vb hf;have hi:i<(zy a0 c).a.length-1:=hi;have hi2:i<(l++k).length:=by rw[List.length_append];omega
  show(zy a0 (c+1)).a.getD i (fun _=>0)=gcl c (ρ c) ((zy a0 c).a.getD (if i<κ c then i else i+1) fun _=>0);have er:ρ c=gpv c r:=by show gpv c _=_;rw[e2]
  rw[e,er,e1];show((l++k).map (gcl c (gpv c r))).getD i (fun _=>0)=_;rw[List.getD_eq_getElem?_getD,List.getElem?_map,List.getElem?_eq_getElem hi2];show gcl c (gpv c r) (l++k)[i]=_;congr 1;rw[f1,List.getElem_append,List.getD_eq_getElem?_getD];rcases Nat.lt_or_ge i l.length with d | d
  ·rw[dif_pos d,if_pos d,List.getElem?_append_left d,List.getElem?_eq_getElem d];rfl
  ·rw[dif_neg (by omega),if_neg (by omega),List.getElem?_append_right (by omega),show i+1-l.length=(i-l.length)+1 by omega,List.getElem?_cons_succ,List.getElem?_eq_getElem];rfl
 ·obtain⟨l,r,k,hf⟩:=kc c hk;obtain⟨-,e2,-⟩:=ks c l r k hf;have e:zy a0 (c+1)=_:=Vb hf;have er:ρ c=gpv c r:=by show gpv c _=_;rw[e2]
  have hi:i<(zy a0 c).o.length:=hi;show((zy a0 (c+1)).o.getD i (fun _=>0,0)).1=gcl c (ρ c) ((zy a0 c).o.getD i (fun _=>0,0)).1;rw[e,er];show(((zy a0 c).o.map (fun x=>(gcl c (gpv c r) x.1,x.2))++[(gpv c r,c)]).getD i (fun _=>0,0)).1=_;rw[List.getD_eq_getElem?_getD,List.getElem?_append_left (by simp;exact hi),List.getElem?_map,List.getD_eq_getElem?_getD,List.getElem?_eq_getElem hi];rfl
 ·obtain⟨l,r,k,hf⟩:=kc c hk;obtain⟨-,e2,-⟩:=ks c l r k hf;have e:zy a0 (c+1)=_:=Vb hf;have er:ρ c=gpv c r:=by show gpv c _=_;rw[e2]
  show((zy a0 (c+1)).o.getD (zy a0 c).o.length (fun _=>0,0)).1=ρ c;rw[e,er];simp
 ·obtain⟨l,r,k,hf⟩:=kc c hk;have e:zy a0 (c+1)=_:=Vb hf;have hi:i<(zy a0 c).o.length:=hi;show((zy a0 (c+1)).o.getD i (fun _=>0,0)).2=((zy a0 c).o.getD i (fun _=>0,0)).2;rw[e];show(((zy a0 c).o.map (fun x=>(gcl c (gpv c r) x.1,x.2))++[(gpv c r,c)]).getD i (fun _=>0,0)).2=_;rw[List.getD_eq_getElem?_getD,List.getElem?_append_left (by simp;exact hi),List.getElem?_map,List.getD_eq_getElem?_getD,List.getElem?_eq_getElem hi];rfl
 ·obtain⟨l,r,k,hf⟩:=kc c hk;have e:zy a0 (c+1)=_:=Vb hf;show((zy a0 (c+1)).o.getD (zy a0 c).o.length (fun _=>0,0)).2=c;rw[e];simp
 ·have e:=gred_stop h0 (m-c);rw[show c+(m-c)=m by omega]at e;rw[e];exact⟨rfl,rfl,rfl⟩
 ·obtain⟨l,r,k,hf⟩:=kc c hk;obtain⟨-,e2,-⟩:=ks c l r k hf;have er:ρ c=gpv c r:=by show gpv c _=_;rw[e2]
  obtain⟨f1,f2,-⟩:=kZ hf;have hr:RowF m (bt b (zy a0 c).o.length) r:=(L c (by omega)).1 r (by rw[f1];simp);show qlen (ρ c j)<=65535;rw[er];exact Nat.le_trans ((hr.pv hc f2).len (hbt c (by omega)) hj) (by decide)
 ·show 0+1 / (zy a0 c).a.getD (κ c) (fun _=>0) c*(zy a0 c).a.getD (κ c) (fun _=>0) j=Fld.inv ((zy a0 c).a.getD (κ c) (fun _=>0) c)*(zy a0 c).a.getD (κ c) (fun _=>0) j;rw[Rat.zero_add,Rat.div_def,Rat.one_mul];rfl
end Mx
end Go.Proofs.YtkmbnldginonbaaGreat
namespace Go.Proofs.YtkmbnldginonbaaGreat
open Crg Pol
namespace Mx
open Rf
theorem ratio_self {D:Nat} (h:0<D):zx (D:Int) (D:Int)=1:=by
 have e:=ratio_scale 1 1 (show(D:Int)≠0 by omega);rw[Int.one_mul,ratio_one]at e;exact e
theorem RowF.aug {m b k i:Nat} {T:Nat->Nat->Rat} (h:RowF m b (T i)):RowF (m+k) b (yy m T i):=by
 obtain⟨D,d0,d1,d2⟩:=h;refine⟨D,d0,d1,fun j hj=>?_⟩;unfold yy;split
 ·rename_i c;exact d2 j c
 ·split
  ·exact⟨D,(ratio_self d0).symm,by rw[Int.natAbs_natCast];exact d1⟩
  ·exact⟨0,(vj _).symm,Nat.zero_le _⟩
theorem RowF.ext {m b k:Nat} {v:Nat->Rat} (h:RowF m b v):RowF (m+k) b (gext m v):=by
 obtain⟨D,d0,d1,d2⟩:=h;refine⟨D,d0,d1,fun j hj=>?_⟩;unfold gext;split
 ·rename_i c;exact d2 j c
 ·exact⟨0,(vj _).symm,Nat.zero_le _⟩
def gch (l : List (Rw Rat × Nat)) (v : Rw Rat) : Nat → Rw Rat
 | 0=>v
 | i+1=>gcl (l.getD i (fun _=>0,0)).2 (l.getD i (fun _=>0,0)).1 (gch l v i)
theorem gch_cons (x : Rw Rat × Nat) (l : List (Rw Rat × Nat)) (v : Rw Rat) : ∀ i, gch (x :: l) v (i + 1) = gch l (gcl x.2 x.1 v) i
 | 0=>rfl
 | i+1=>by
  show gcl _ _ (gch (x :: l) v (i+1))=gcl _ _ (gch l (gcl x.2 x.1 v) i);rw[gch_cons x l v i];rfl
theorem gch_len : ∀ (l : List (Rw Rat × Nat)) (v : Rw Rat), gch l v l.length = yW l v
 | [],_=>rfl
 | x :: l,v=>by
  show gch (x :: l) v (l.length+1)=yW l (gcl x.2 x.1 v);rw[gch_cons,gch_len l]
theorem gch_size {m b c : Nat} {l : List (Rw Rat × Nat)} {v : Rw Rat} (hv : RowF m b v) (hl : ∀ x ∈ l, RowF m c x.1 ∧ x.2 < m) : ∀ i, i ≤ l.length → RowF m (b + i * (c + 1)) (gch l v i)
 | 0,_=>by rw[Nat.zero_mul];exact hv
 | i+1,hi=>by
  obtain⟨h1,h2⟩:=hl _ (v9 (d:=(fun _=>0,0)) (show i<l.length by omega));refine((gch_size hv hl i (by omega)).cl h1 h2).mono ?_;rw[Nat.succ_mul];omega
structure Sys (m k b : Nat) (T : Nat → Nat → Rat) (v : Nat → Rat) : Prop where
 hk:k<=5
 hm:m<=64
 hb:bt b 6<270000
 wk:∀ i,i<k->RowF m b (T i)
 rhs:RowF m b v
theorem bt_ge (b:Nat):b<=bt b 6:=bt_mono b (Nat.zero_le 6)
theorem Sys.red {m k b:Nat} {T:Nat->Nat->Rat} {v:Nat->Rat} (h:Sys m k b T v):∃(P:Nat) (O ρ:Nat->Nat->Rat) (π:Nat->Nat),P<=k/\(∀ i,i<P->π i<m+k)/\(∀ i j,i<P->j<m+k->qlen (O i j)<=65535)/\(∀ i j,i<=P->j<m+k->qlen (ρ i j)<=65535)/\ρ 0=gext m v/\(∀ i,ρ (i+1)=gcl (π i) (O i) (ρ i))/\(∀ j,ρ P j=jP m k T v j)/\FnOK Tryz.prog false 124 [.c (.int .i64 ((m+k:Nat):Int)),.c (.row 1 k (rlF (m+k) (yy m T)))] (.t2 (.c (.row 1 P (rlF (m+k) O))) (.c (.row 1 P (plF π)))):=by
 obtain⟨hk,hm,hb,hr,hv⟩:=h;have gl:(k7 m k T).length=k:=by unfold k7;rw[List.length_map,List.length_range]
 have ga:∀ r∈k7 m k T,RowF (m+k) b r:=fun r hx=>by
  obtain⟨i,hi,rfl⟩:=List.mem_map.1 hx;exact(hr i (List.mem_range.1 hi)).aug
 obtain⟨h1,h2,h3⟩:=gred_len ga (m+k) (Nat.le_refl _);have I:=Vq (k7 m k T) (m+k);have R:=reduce_ok (m:=m+k) (b:=b) (a0:=k7 m k T) (by omega) (by omega) ga (by omega);generalize hs:zy (k7 m k T) (m+k)=s at *;have e0:∀ i,i<k->(k7 m k T).getD i (fun _=>0)=yy m T i:=fun i hi=>by
  unfold k7;rw[List.getD_eq_getElem?_getD,List.getElem?_map,List.getElem?_range hi];rfl
 have hp:s.o.length<=k:=by omega
 have hq:∀ x∈s.o,RowF (m+k) (bt b 6) x.1/\x.2<m+k:=fun x hx=>⟨(h2 x hx).mono (bt_mono b (by omega)),(I.one x hx).2.1⟩;have hz:=gch_size hv.ext hq;have hg:=bt_ge b;refine⟨s.o.length,fun i=>(s.o.getD i (fun _=>0,0)).1,gch s.o (gext m v),fun i=>(s.o.getD i (fun _=>0,0)).2,hp,fun i hi=>(hq _ (v9 hi)).2,fun i j hi hj=>(hq _ (v9 hi)).1.len (by omega) hj,fun i j hi hj=>(hz i hi).len ?_ hj,rfl,fun i=>rfl,fun j=>?_,?_⟩
 ·have:=Nat.mul_le_mul (show i<=5 by omega) (Nat.le_refl (bt b 6+1));omega
 ·unfold jP;rw[hs,gch_len]
 ·rw[gl]at R;refine arg_ok R fun D w vs g=>?_;match vs,g with
  | [x,y],⟨g1,g2,_⟩ =>
   refine⟨g1,zg rfl (fun i j hi _=>?_) D w y g2,trivial⟩;exact congrArg (nql (m+k)) (e0 i hi).symm
end Mx
end Go.Proofs.YtkmbnldginonbaaGreat
namespace Go.Proofs.YtkmbnldginonbaaGreat
open Go.RowKit
namespace Mx
open Rf
theorem cb_keep {cb:Gx} {t sz:Nat} {l0:List Cell} (h:cb=⟨t,sz,1,qk l0⟩) (h0:l0.all Cell.clos=true) (bl:List Blk) (ks:List (Option Nat)) (hb:bl[0]? = some (gb cb)):yZ 0 bl ks cb (some 0):=by
 subst h;exact Rf.boxK hb h0
theorem one_upd {V V':Nat->Rat} {p x y:Nat} {v:Rat} (h:V' x=if x=p then v else V x) (hy:y<4):zY (qlF fun k=>ofR (V k)) p 0 (nq v) x y=qlF (fun k=>ofR (V' k)) x y :=
 WZ (sz:=4) (g:=fun k=>nq (V k)) (g':=fun k=>nq (V' k)) (l:=nq v) rfl hy (by
  show(if x=p then nq v else nq (V x))=nq (V' x);rw[h];by_cases e:x=p
  ·rw[if_pos e,if_pos e]
  ·rw[if_neg e,if_neg e])
set_option maxHeartbeats 4000000
theorem rzeros_t {n:Nat} (hn:n<=1024):FnT Tryz.prog false 64 0 [] [.c (.int .i64 n)] (.c (.gs 0 0)) [gb (gqr n fun _=>ofR 0)]:=by
 have h0:=Xz;refine jX (E:=E0) qw Tryz.func64 rfl (by kernel_rfl) ?_;refine qJ qw mixed (by kernel_rfl) ?_;conv=>whnf
 refine qK (fun i:Nat=>gst [(0,.c (.int .i64 n)),(3,.c (.gs 0 0)),(4,.c (.int .i64 i))] [gqr i fun _=>ofR 0]) (fun i=>n-i) (fun i=>i<=n) 0 rfl (Weak.gen [none] rfl ⟨rfl,trivial⟩ ⟨⟨_,rfl,rfl⟩,rfl,⟨_,rfl,rfl⟩,trivial⟩) (Nat.zero_le _) fun i hi=>?_;conv=>whnf
 refine qg (fun(h:decide ((i:Int)<n)=true)=>?_) fun(h:decide ((i:Int)<n)=false)=>?_
 ·have h:=of_decide_eq_true h;conv=>whnf
  refine⟨_,h0,?_⟩;conv=>whnf
  refine⟨by show i+1<=16777216;omega,fun a b ha hb=>one_nq 0 _ a b ha hb,?_⟩;conv=>whnf
  refine⟨i64 (by omega) (by omega),?_⟩;conv=>whnf
  refine⟨i+1,by omega,Weak.gen [some 0] rfl ⟨⟨_,rfl,rfl,rfl,rfl,rfl,fun a b ha hb=>qY ?_ (qW (c:=fun _=>ofR 0) a b)⟩,trivial⟩ ⟨⟨_,rfl,rfl⟩,⟨_,rfl,rfl,rfl⟩,⟨_,rfl,rfl⟩,trivial⟩,by omega⟩;exact appG (sz:=4) (g:=fun _=>nq 0) (g':=fun _=>nq 0) (l:=nq 0) (app_sameq (fun _=>0) i a) (Nat.le_refl (i+1)) ha
 ·have h:=of_decide_eq_false h;have e:i=n:=by omega
  conv=>whnf
  exact Weak.gen (tl:=[(0,.c (.gs 0 0))]) (xs:=[gqr n fun _=>ofR 0]) [some 0] rfl ⟨⟨_,rfl,rfl,rfl,e,rfl,fun a b ha hb=>qY rfl (qW (c:=fun _=>ofR 0) a b)⟩,trivial⟩ ⟨⟨_,rfl,rfl,rfl⟩,trivial⟩
set_option maxRecDepth 100000 in
theorem unit_ok {n k:Nat} {u:Nat->Rat} (hn:n<=1024) (hk:k<n) (hu:∀ j,u j=if j=k then 1 else 0):FnOK Tryz.prog false 62 [.c (.int .i64 n),.c (.int .i64 k)] (.c (nql n u)):=by
 have o1:FnOK Tryz.prog false 52 [.c (.int .i64 1)] (.g (nq 1)):=vZ (n:=1) (by omega) (by omega);have k0:(0:Int)<=(k:Int):=by omega
 have k1:(k:Int)<(n:Int):=by omega
 refine jy (E:=E0) qw Tryz.func62 rfl (by kernel_rfl) ?_;refine qy qw mixed (by kernel_rfl) ?_;conv=>whnf
 refine⟨gst [(0,.c (.int .i64 n)),(1,.c (.int .i64 k))] [],Weak.gen [] rfl trivial ⟨⟨_,rfl,rfl⟩,⟨_,rfl,rfl⟩,trivial⟩,?_⟩;refine qF (fun _:Unit=>gst [(1,.c (.int .i64 k)),(5,.c (.gs 0 0))] [gqr n fun _=>ofR 0]) (fun _=>True) ?_ fun _ _=>?_
 ·refine vK qw (pre:=[_]) (post:=[_]) rfl rfl (by kernel_rfl) ?_;conv=>whnf
  refine⟨0,_,Nat.le_refl _,OpGoT.call0 (f:=64) (cs:=[]) rfl rfl (fun B hB=>absurd hB List.not_mem_nil) (rzeros_t hn) (jp (Vg (tl:=[(0,.c (.int .i64 n)),(1,.c (.int .i64 k))]) ⟨rfl,rfl,trivial⟩) rfl),?_⟩;conv=>whnf
  exact⟨(),trivial,Weak.gen [some 0] rfl ⟨⟨_,rfl,rfl,rfl,rfl,rfl,fun x y hx hy=>qY rfl (qW (c:=fun _=>ofR 0) x y)⟩,trivial⟩ ⟨⟨_,rfl,rfl⟩,⟨_,rfl,rfl,rfl⟩,trivial⟩⟩
 refine qy qw mixed (by kernel_rfl) ?_;conv=>whnf
 refine⟨_,o1,?_⟩;conv=>whnf
 refine⟨k0,k1,?_⟩;conv=>whnf
 refine⟨gst [(5,.c (.gs 0 0))] [gqr n fun j=>ofR (u j)],Weak.gen [some 0] rfl ⟨⟨_,rfl,rfl,rfl,rfl,rfl,fun x y hx hy=>qY (one_upd (V:=fun _=>0) (V':=u) (by rw[hu];rfl) hy) (qW (c:=fun j=>ofR (u j)) x y)⟩,trivial⟩ ⟨⟨_,rfl,rfl,rfl⟩,trivial⟩,?_⟩;refine qJ qw mixed (by kernel_rfl) ?_;conv=>whnf
 refine⟨fun a b _ _=>qW (c:=fun j=>ofR (u j)) a b,?_⟩;conv=>whnf
 exact⟨rfl,Sub.refl _⟩
abbrev rowsX (m k i:Nat) (T:Nat->Nat->Rat):List Gx:=(List.range k).map fun x=>gq (if x<i then m+k else m) (yy m T x)
theorem r_aug {q c m x:Nat} {bl:List Blk} {ks:List (Option Nat)} {T:Nat->Nat->Rat} (h:bl[c]? = some ⟨38,4,m,0,0,qlF fun j=>ofR (T x j)⟩):yZ q bl ks (gq m (yy m T x)) (some c):=rk h fun _ hj=>if_pos hj
theorem r_app {q c m k u i:Nat} {bl:List Blk} {ks:List (Option Nat)} {T:Nat->Nat->Rat} (h:bl[c]? = some ⟨38,4,m+k,u,0,zB m (qlF fun j=>ofR (yy m T i j)) (qlF fun j=>ofR (if j=i then 1 else 0))⟩):yZ q bl ks (gq (m+k) (yy m T i)) (some c):=by
 refine⟨_,h,rfl,rfl,rfl,rfl,fun a b ha hb=>qY ?_ (Uw _ a b)⟩;show zB m (qlF fun j=>ofR (yy m T i j)) (qlF fun j=>ofR (if j=i then 1 else 0)) a b=qlF (fun j=>ofR (yy m T i j)) a b;unfold zB;by_cases c:a<m
 ·rw[if_pos c]
 ·rw[if_neg c];refine congrArg (fun z=>(rr (ofR z)).getD b .any) ?_;unfold yy;rw[if_neg c];by_cases d:a-m=i
  ·rw[if_pos d,if_pos (by omega)]
  ·rw[if_neg d,if_neg (by omega)]
theorem rx_get {m k x:Nat} {A B:Gx} {T:Nat->Nat->Rat} (hx:x<k):((A :: B :: rowsX m k k T).map gb)[x+2]? = some (gb (gq (m+k) (yy m T x))):=by
 simp[rowsX,hx]
theorem rx_cells {m k x y:Nat} {A B:Gx} {T:Nat->Nat->Rat} (hx:x<k) (_:y<1):zF 0 ((A :: B :: rowsX m k k T).map gb) [some 0,some 1] (nql (m+k) (yy m T x)) fun z=>gsF 2 x y=z := .inr (.inr ⟨x+2,_,rx_get hx,rfl,rfl,rfl,Nat.zero_le 1,rfl,rfl,fun i j _ _=>⟨rfl,Uw _ i j⟩⟩)
theorem rest_cells {m:Nat} {q r:Nat->RawR} {f:Nat->Nat->Cell} (hr:∀ j,r j=if j<m then q j else ofR 0) (x y:Nat):zB (0+m) (zB 0 f (qlF q)) (qlF fun _=>ofR 0) x y=qlF r x y:=by
 unfold zB;rw[Nat.zero_add];by_cases c:x<m
 ·rw[if_pos c,if_neg (Nat.not_lt_zero x),Nat.sub_zero];show(rr (q x)).getD y .any=(rr (r x)).getD y .any;rw[hr,if_pos c]
 ·rw[if_neg c];show(rr (ofR 0)).getD y .any=(rr (r x)).getD y .any;rw[hr,if_neg c]
structure Slv (k m P J : Nat) (T : Nat → Nat → Rat) (q : Nat → RawR) (x : Nat → Rat) (O : Nat → Nat → Rat) (ρ : Nat → Nat → RawR) (π : Nat → Nat) (X : V) : Prop where
 hk:k<=5
 hm:m<=64
 hP:P<=k
 hT:∀ i j,i<k->j<m->qlen (T i j)<=524286
 kR:FnOK Tryz.prog false 124 [.c (.int .i64 ((m+k:Nat):Int)),.c (.row 1 k (rlF (m+k) (yy m T)))] (.t2 (.c (.row 1 P (rlF (m+k) O))) (.c (.row 1 P (plF π))))
 kcl:∀ i,i<P->FnOK Tryz.prog false 153 [.c (ql (m+k) (ρ i)),.c (nql (m+k) (O i)),.c (.int .i64 (π i:Nat))] (.c (ql (m+k) (ρ (i+1))))
 r0:∀ j,ρ 0 j=if j<m then q j else ofR 0
 sg:∀ j,j<m->FnOK Tryz.prog false 106 [.g (rr (ρ P j))] (.c (.int .i64 (ρ P j).val.num.sign))
 kc:FnOK Tryz.prog false 63 [.c (nql k fun _=>0),.g (nq (-1)),.c (.row 4 (((m+k:Nat):Int)-(m:Int)).toNat fun i j=>qlF (ρ P) ((m:Int).toNat+i) j)] (.c (nql k x))
 hJ:J<=m
 hz:∀ j,j<J->(ρ P j).val=0
 hn:J<m->(ρ P J).val≠0/\X = .t2 (.c .nil) (.c (.bool false))
 hy:J=m->X = .t2 (.c (nql k x)) (.c (.bool true))
set_option maxRecDepth 100000 in
set_option maxHeartbeats 32000000 in
theorem solve_walk {k m P J:Nat} {T:Nat->Nat->Rat} {q:Nat->RawR} {x:Nat->Rat} {O:Nat->Nat->Rat} {ρ:Nat->Nat->RawR} {π:Nat->Nat} {X:V} (h:Slv k m P J T q x O ρ π X):FnOK Tryz.prog false 118 [.g (zj k m T),.c (ql m q)] X:=by
 obtain⟨hk,hm,hP,hT,kR,kcl,r0,sg,kc,hJ,hz,hn,hy⟩:=h;have kz:=Xx (n:=k) (by omega);have o1:FnOK Tryz.prog false 52 [.c (.int .i64 (-1))] (.g (nq (-1))):=vZ (n := -1) (by omega) (by omega);have ku:∀ i,i<k->FnOK Tryz.prog false 62 [.c (.int .i64 k),.c (.int .i64 i)] (.c (nql k fun j=>if j=i then 1 else 0)):=fun i hi=>unit_ok (n:=k) (k:=i) (u:=fun j=>if j=i then 1 else 0) (by omega) hi fun _=>rfl;have kr:=fun h1:1<=k=>rows_t (k:=k) (m:=m) (q:=fun a=>ofR (T (a / m) (a%m))) (G:=T) (zj k m T) (by rfl) h1 (by omega) hm (wq_mat hT) (Xq (n:=k));have ko:=rows_ok (n:=k) (m:=m) (G:=T) (by omega) hm hT;clear hT;refine jy (E:=E0) qw Tryz.func118 rfl (by kernel_rfl) ?_;refine qy qw mixed (by kernel_rfl) ?_;conv=>whnf
 refine⟨gst [(1,.c (ql m q)),(2,.c (.p 0 0 3 0 0))] [⟨24,3,1,qk (zj k m T)⟩],Weak.gen [some 0] rfl ⟨Rf.boxK rfl rfl,trivial⟩ ⟨rO rfl,⟨_,rfl,rfl,rfl⟩,trivial⟩,?_⟩;refine V4 (fun _:Unit=>gst [(1,.c (ql m q)),(2,.c (.p 0 0 3 0 0)),(6,.c (.row 1 k (rlF (m+k) (yy m T))))] [⟨24,3,1,qk (zj k m T)⟩]) (fun _=>True) ?_ fun _ _=>?_
 ·clear kR kcl r0 sg kc hJ hz hn hy kz o1 hP;rcases Nat.eq_zero_or_pos k with h0 | h1
  ·subst h0;refine qJ qw mixed (by kernel_rfl) ?_;conv=>whnf
   refine⟨_,ko,?_⟩;conv=>whnf
   refine qf qw mixed (by kernel_rfl) ?_;conv=>whnf
   refine qq (qZ (fun _:Unit=>gst [(1,.c (ql m q)),(2,.c (.p 0 0 3 0 0)),(6,.c (.row 1 0 (rlF (m+0) (yy m T)))),(7,.c (.int .i64 0))] [⟨24,3,1,qk (zj 0 m T)⟩]) (fun _=>0) (fun _=>True) () (Weak.gen [some 0] rfl ⟨Rf.boxK rfl rfl,trivial⟩ ⟨rO rfl,⟨_,rfl,rfl,rfl⟩,.inl ⟨_,_,rfl,rfl,fun i j hi _=>absurd hi (Nat.not_lt_zero i)⟩,⟨_,rfl,rfl⟩,trivial⟩) trivial fun _ _=>?_);refine qJ qw mixed (by kernel_rfl) ?_;conv=>whnf
   exact⟨(),trivial,Weak.gen [some 0] rfl ⟨Rf.boxK rfl rfl,trivial⟩ ⟨rO rfl,⟨_,rfl,rfl,rfl⟩,rO rfl,trivial⟩⟩
  have kr:=kr h1;clear ko;have e:k=1∨k=2∨k=3∨k=4∨k=5:=by omega
  have F:_/\_/\_:=⟨ku,kr,hm⟩;clear ku kr hm h1 hk;revert F;rcases e with e | e | e | e | e <;> (
   apply yb e;intro k F;obtain⟨ku,kr,hm⟩:=F;refine vK qw (pre:=[_]) (post:=[_]) rfl rfl (by kernel_rfl) ?_;conv=>whnf
   refine⟨1,_,by decide,OpGoT.call0 (f:=55) (cs:=[]) rfl rfl U3 kr (jp (Vg (tl:=[(1,.c (ql m q)),(2,.c (.p 0 0 3 0 0))]) ⟨rfl,rfl,trivial⟩) rfl),?_⟩;conv=>whnf
   refine swp_weak (σ2:=gst [(1,.c (ql m q)),(2,.c (.p 0 0 3 0 0)),(6,.c (.gs 1 0))] (⟨24,3,1,qk (zj k m T)⟩ :: ⟨22,1,k,gsF 2⟩ :: rowsX m k 0 T)) (Weak.gen (some 0 :: some 1 :: (List.range k).map fun x=>some (x+2)) rfl ⟨Rf.boxK rfl rfl,⟨_,rfl,rfl,rfl,rfl,rfl,fun x y hx hy=>vp (x:=x) (y:=y) rfl rfl hx⟩,by repeat (first | exact trivial | refine⟨r_aug rfl,?_⟩)⟩ ⟨rO rfl,⟨_,rfl,rfl,rfl⟩,⟨_,rfl,rfl,rfl⟩,trivial⟩) ?_;refine qy qw mixed (by kernel_rfl) ?_;conv=>whnf
   refine⟨(fun i:Nat=>gst [(1,.c (ql m q)),(2,.c (.p 0 0 3 0 0)),(6,.c (.gs 1 0)),(7,.c (.int .i64 i))] (⟨24,3,1,qk (zj k m T)⟩ :: ⟨22,1,k,gsF 2⟩ :: rowsX m k i T)) 0,Weak.gen (some 0 :: some 1 :: (List.range k).map fun x=>some (x+2)) rfl ⟨Rf.boxK rfl rfl,⟨_,rfl,rfl,rfl,rfl,rfl,fun x y hx hy=>vp (x:=x) (y:=y) rfl rfl hx⟩,by repeat (first | exact trivial | refine⟨rs rfl,?_⟩)⟩ ⟨rO rfl,⟨_,rfl,rfl,rfl⟩,⟨_,rfl,rfl,rfl⟩,⟨_,rfl,rfl⟩,trivial⟩,?_⟩;refine qq (qZ (fun i:Nat=>gst [(1,.c (ql m q)),(2,.c (.p 0 0 3 0 0)),(6,.c (.gs 1 0)),(7,.c (.int .i64 i))] (⟨24,3,1,qk (zj k m T)⟩ :: ⟨22,1,k,gsF 2⟩ :: rowsX m k i T)) (fun i=>k-i) (fun i=>i<=k) 0 (Weak.refl _) (Nat.zero_le k) fun i hi=>?_);have hi:i<=k:=hi;rcases Nat.lt_or_ge i k with ilt | ige;rotate_left
   ·obtain rfl:i=k:=Nat.le_antisymm hi ige;clear ku kr ige hi;refine qJ qw mixed (by kernel_rfl) ?_;conv=>whnf
    exact⟨(),trivial,Weak.trans (b:=gst [(1,.c (ql m q)),(2,.c (.p 0 0 3 0 0)),(6,.c (.gs 1 0))] [⟨24,3,1,qk (zj k m T)⟩,⟨22,1,k,rlF (m+k) (yy m T)⟩]) (Weak.gen [some 0,some 1] rfl ⟨Rf.boxK rfl rfl,⟨_,rfl,rfl,rfl,rfl,rfl,fun x y hx hy=>rx_cells hx hy⟩,trivial⟩ ⟨rO rfl,⟨_,rfl,rfl,rfl⟩,⟨_,rfl,rfl,rfl⟩,trivial⟩) (Weak.gen [some 0] rfl ⟨Rf.boxK rfl rfl,trivial⟩ ⟨rO rfl,⟨_,rfl,rfl,rfl⟩,.inr (.inr ⟨1,_,rfl,rfl,rfl,rfl,Nat.zero_le _,rfl,rfl,fun x y hx hy=>⟨rfl,rfl⟩⟩),trivial⟩)⟩
   have e:i=0∨i=1∨i=2∨i=3∨i=4:=by
    have hk:k<=5:=by decide
    omega
   have hk:k<=5:=by decide
   have F:_/\_/\_:=⟨ku i ilt,ilt,(by omega:(i:Int)<(k:Int))⟩;clear ku kr hi;revert F;rcases e with e | e | e | e | e <;> first
    |(exfalso;subst e;exact absurd ilt (by decide))
    |(
     clear ilt;apply yb e;intro i F;obtain⟨ku,ilt,h1⟩:=F;refine qf qw mixed (by kernel_rfl) ?_;conv=>whnf
     refine qF (fun _:Unit=>gst [(1,.c (ql m q)),(2,.c (.p 0 0 3 0 0)),(6,.c (.gs 1 0)),(7,.c (.int .i64 i))] (⟨24,3,1,qk (zj k m T)⟩ :: ⟨22,1,k,gsF 2⟩ :: rowsX m k (i+1) T)) (fun _=>True) ?_ fun _ _=>?_;rotate_left
     ·refine qJ qw mixed (by kernel_rfl) ?_;conv=>whnf
      refine⟨qz (by omega) (by omega),?_⟩;conv=>whnf
      exact⟨i+1,by omega,Weak.gen (some 0 :: some 1 :: (List.range k).map fun x=>some (x+2)) rfl ⟨Rf.boxK rfl rfl,⟨_,rfl,rfl,rfl,rfl,rfl,fun x y hx hy=>vp (x:=x) (y:=y) rfl rfl hx⟩,by repeat (first | exact trivial | refine⟨rs rfl,?_⟩)⟩ ⟨rO rfl,⟨_,rfl,rfl,rfl⟩,⟨_,rfl,rfl,rfl⟩,⟨_,rfl,rfl⟩,trivial⟩,ilt⟩
     refine qq ?_;refine qJ qw mixed (by kernel_rfl) ?_;conv=>whnf
     refine⟨Int.natCast_nonneg i,h1,?_⟩;conv=>whnf
     refine⟨_,ku,?_⟩;conv=>whnf
     refine⟨by show m+k<=16777216;omega,fun a b ha hb=>⟨rr_one _ _ b hb,fun h=>by cases h⟩,?_⟩;conv=>whnf
     refine⟨Int.natCast_nonneg i,h1,?_⟩;conv=>whnf
     exact⟨(),trivial,Weak.gen (some 0 :: some 1 :: (List.range k).map fun x=>some (x+2)) rfl ⟨Rf.boxK rfl rfl,⟨_,rfl,rfl,rfl,rfl,rfl,fun x y hx hy=>gs_upd (i:=i) (x:=x) (y:=y) rfl hx hy⟩,by repeat (first | exact trivial | refine⟨rs rfl,?_⟩ | refine⟨r_app (i:=i) rfl,?_⟩)⟩ ⟨rO rfl,⟨_,rfl,rfl,rfl⟩,⟨_,rfl,rfl,rfl⟩,⟨_,rfl,rfl⟩,trivial⟩⟩))
 clear kr ku ko;rw[Int.natCast_add]at kR;refine qy qw mixed (by kernel_rfl) ?_;conv=>whnf
 refine⟨qz (by omega) (by omega),?_⟩;conv=>whnf
 refine⟨_,kR,?_⟩;conv=>whnf
 refine⟨gst [(1,.c (ql m q)),(2,.c (.p 0 0 3 0 0)),(8,.c (.row 1 P (rlF (m+k) O))),(9,.c (.row 1 P (plF π)))] [⟨24,3,1,qk (zj k m T)⟩],Weak.gen [some 0] rfl ⟨Rf.boxK rfl rfl,trivial⟩ ⟨rO rfl,⟨_,rfl,rfl,rfl⟩,rO rfl,rO rfl,trivial⟩,?_⟩;refine qy qw mixed (by kernel_rfl) ?_;conv=>whnf
 refine .inl ?_;conv=>whnf
 refine⟨by show 0+m<=16777216;omega,fun a b ha hb=>⟨rr_one _ _ b hb,fun h=>by cases h⟩,?_⟩;conv=>whnf
 refine⟨_,kz,?_⟩;conv=>whnf
 refine⟨by show 0+m+k<=16777216;omega,fun a b ha hb=>⟨rr_one _ _ b hb,fun h=>by cases h⟩,?_⟩;conv=>whnf
 refine⟨gst [(2,.c (.p 0 0 3 0 0)),(8,.c (.row 1 P (rlF (m+k) O))),(9,.c (.row 1 P (plF π))),(10,.c (ql (m+k) (ρ 0)))] [⟨24,3,1,qk (zj k m T)⟩],Weak.gen [some 0] rfl ⟨Rf.boxK rfl rfl,trivial⟩ ⟨⟨_,rfl,rfl,rfl⟩,rO rfl,rO rfl,.inr (.inr ⟨1,_,rfl,rfl,rfl,rfl,Nat.zero_le _,rfl,(by show 0+m+k=m+k;omega),fun x y hx hy=>⟨rest_cells (f:=xJ 4 []) r0 x y,qW (c:=ρ 0) x y⟩⟩),trivial⟩,?_⟩;clear r0;refine qF (fun _:Unit=>gst [(2,.c (.p 0 0 3 0 0)),(10,.c (ql (m+k) (ρ P)))] [⟨24,3,1,qk (zj k m T)⟩]) (fun _=>True) ?_ fun _ _=>?_
 ·refine qy qw mixed (by kernel_rfl) ?_;conv=>whnf
  refine⟨(fun i:Nat=>gst [(2,.c (.p 0 0 3 0 0)),(8,.c (.row 1 P (rlF (m+k) O))),(9,.c (.row 1 P (plF π))),(10,.c (ql (m+k) (ρ i))),(11,.c (.int .i64 i))] [⟨24,3,1,qk (zj k m T)⟩]) 0,Weak.gen [some 0] rfl ⟨Rf.boxK rfl rfl,trivial⟩ ⟨⟨_,rfl,rfl,rfl⟩,rO rfl,rO rfl,rO rfl,⟨_,rfl,rfl⟩,trivial⟩,?_⟩;refine qq (qZ (fun i:Nat=>gst [(2,.c (.p 0 0 3 0 0)),(8,.c (.row 1 P (rlF (m+k) O))),(9,.c (.row 1 P (plF π))),(10,.c (ql (m+k) (ρ i))),(11,.c (.int .i64 i))] [⟨24,3,1,qk (zj k m T)⟩]) (fun i=>P-i) (fun i=>i<=P) 0 (Weak.refl _) (Nat.zero_le P) fun i hi=>?_);have hi:i<=P:=hi;rcases Nat.lt_or_ge i P with h | h;rotate_left
  ·obtain rfl:i=P:=by omega
   refine qJ qw mixed (by kernel_rfl) ?_;conv=>whnf
   refine jj (show decide ((i:Int)<(i:Int))=false from decide_eq_false (by omega)) ?_;conv=>whnf
   exact⟨(),trivial,Weak.gen [some 0] rfl ⟨Rf.boxK rfl rfl,trivial⟩ ⟨⟨_,rfl,rfl,rfl⟩,rO rfl,trivial⟩⟩
  ·have kcl:=kcl i h;have i0:(0:Int)<=(i:Int):=by omega
   have i1:(i:Int)<(P:Int):=by omega
   refine qJ qw mixed (by kernel_rfl) ?_;conv=>whnf
   refine xG (decide_eq_true i1) ?_;conv=>whnf
   refine⟨i0,i1,?_⟩;conv=>whnf
   refine⟨i0,i1,?_⟩;conv=>whnf
   refine⟨_,kcl,?_⟩;conv=>whnf
   refine⟨qz (by omega) (by omega),?_⟩;conv=>whnf
   exact⟨i+1,by omega,Weak.gen [some 0] rfl ⟨Rf.boxK rfl rfl,trivial⟩ ⟨⟨_,rfl,rfl,rfl⟩,rO rfl,rO rfl,rO rfl,⟨_,rfl,rfl⟩,trivial⟩,h⟩
 refine qF (fun _:Unit=>gst [(2,.c (.p 0 0 3 0 0)),(10,.c (ql (m+k) (ρ P)))] [⟨24,3,1,qk (zj k m T)⟩]) (fun _=>J=m) ?_ fun _ hJm=>?_
 ·refine qy qw mixed (by kernel_rfl) ?_;conv=>whnf
  refine⟨(fun j:Nat=>gst [(2,.c (.p 0 0 3 0 0)),(10,.c (ql (m+k) (ρ P))),(12,.c (.int .i64 (j:Nat)))] [⟨24,3,1,qk (zj k m T)⟩]) 0,Weak.gen [some 0] rfl ⟨Rf.boxK rfl rfl,trivial⟩ ⟨⟨_,rfl,rfl,rfl⟩,rO rfl,⟨_,rfl,rfl⟩,trivial⟩,?_⟩;refine qq (qZ (fun j:Nat=>gst [(2,.c (.p 0 0 3 0 0)),(10,.c (ql (m+k) (ρ P))),(12,.c (.int .i64 (j:Nat)))] [⟨24,3,1,qk (zj k m T)⟩]) (fun j=>m-j) (fun j=>j<=J) 0 (Weak.refl _) (Nat.zero_le J) fun j hj=>?_);have hj:j<=J:=hj;rcases Nat.lt_or_ge j m with h | h;rotate_left
  ·refine qJ qw mixed (by kernel_rfl) ?_;conv=>whnf
   refine jj (show decide ((j:Int)<(m:Int))=false from decide_eq_false (by omega)) ?_;conv=>whnf
   exact⟨(),by omega,Weak.gen [some 0] rfl ⟨Rf.boxK rfl rfl,trivial⟩ ⟨⟨_,rfl,rfl,rfl⟩,rO rfl,trivial⟩⟩
  ·have sg:=sg j h;have i0:(0:Int)<=(j:Int):=by omega
   have i1:(j:Int)<((m+k:Nat):Int):=by omega
   rcases Nat.lt_or_ge j J with hl | hl
   ·have hz:=hz j hl;refine qJ qw mixed (by kernel_rfl) ?_;conv=>whnf
    refine xG (show decide ((j:Int)<(m:Int))=true from decide_eq_true (by omega)) ?_;conv=>whnf
    refine⟨i0,i1,?_⟩;conv=>whnf
    refine⟨_,sg,?_⟩;conv=>whnf
    refine jj (show(!decide ((ρ P j).val.num.sign=0))=false by rw[hz];rfl) ?_;conv=>whnf
    refine⟨qz (by omega) (by omega),?_⟩;conv=>whnf
    exact⟨j+1,by omega,Weak.gen [some 0] rfl ⟨Rf.boxK rfl rfl,trivial⟩ ⟨⟨_,rfl,rfl,rfl⟩,rO rfl,⟨_,rfl,rfl⟩,trivial⟩,hl⟩
   ·obtain rfl:j=J:=by omega
    obtain⟨hne,hX⟩:=hn h;clear hy hn;subst hX;refine qJ qw mixed (by kernel_rfl) ?_;conv=>whnf
    refine xG (show decide ((j:Int)<(m:Int))=true from decide_eq_true (by omega)) ?_;conv=>whnf
    refine⟨i0,i1,?_⟩;conv=>whnf
    refine⟨_,sg,?_⟩;conv=>whnf
    refine xG (show(!decide ((ρ P j).val.num.sign=0))=true by rw[decide_eq_false fun e=>hne ((jf _).1 e)];rfl) ?_;conv=>whnf
    exact⟨rfl,Sub.refl _⟩
 have hX:=hy hJm;clear hy hn;subst hX;refine qJ qw mixed (by kernel_rfl) ?_;conv=>whnf
 refine⟨_,kz,?_⟩;conv=>whnf
 refine⟨_,o1,?_⟩;conv=>whnf
 refine⟨by omega,by show(m:Int)<=((m+k:Nat):Int);omega,?_⟩;conv=>whnf
 refine⟨Int.le_refl _,?_⟩;conv=>whnf
 refine⟨_,kc,?_⟩;conv=>whnf
 exact⟨rfl,Sub.refl _⟩
end Mx
end Go.Proofs.YtkmbnldginonbaaGreat
