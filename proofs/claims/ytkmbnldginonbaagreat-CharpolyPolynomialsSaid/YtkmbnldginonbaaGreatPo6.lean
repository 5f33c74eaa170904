/- Digits to base 2^32 as functions: their value, the digits of a number, leading zeros. No condition. -/
import Derived.Test.YtkmbnldginonbaaGreatPo5
set_option maxHeartbeats 4000000
namespace Go.Proofs.YtkmbnldginonbaaGreat
open Go.RowKit
namespace Rf
abbrev BB:Nat:=4294967296
def nv (d : Nat → Nat) : Nat → Nat
 | 0=>0
 | q+1=>nv d q+BB^q*d q
def dg (x i:Nat):Nat:=x / BB^i%BB
def tn (d : Nat → Nat) : Nat → Nat
 | 0=>0
 | n+1=>if d n=0 then tn d n else n+1
def DOk (q:Nat) (d:Nat->Nat):Prop:=∀ i,i<q->d i<BB
theorem ww (i:Nat):0<BB^i:=Nat.pow_pos (by decide)
theorem DOk.mono {q r:Nat} {d:Nat->Nat} (h:DOk q d) (hr:r<=q):DOk r d:=fun i hi=>h i (by omega)
theorem WX {d e : Nat → Nat} : ∀ {q : Nat}, (∀ i, i < q → d i = e i) → nv d q = nv e q
 | 0,_=>rfl
 | q+1,h=>by
  unfold nv;rw[h q (by omega),WX fun i hi=>h i (by omega)]
theorem yK {d : Nat → Nat} : ∀ {q : Nat}, DOk q d → nv d q < BB ^ q
 | 0,_=>by simp[nv]
 | q+1,h=>by
  have h1:=yK (h.mono (Nat.le_succ q));have h2:BB^q*d q<=BB^q*(BB-1):=Nat.mul_le_mul_left _ (by have:=h q (by omega);omega);have h3:BB^q*(BB-1)+BB^q=BB^(q+1):=by rw[Nat.pow_succ,<- Nat.mul_succ];rfl
  unfold nv;omega
theorem dg_lt (x i:Nat):dg x i<BB:=Nat.mod_lt _ (by decide)
theorem dg_ok (x q:Nat):DOk q (dg x):=fun i _=>dg_lt x i
theorem nv_dg (x : Nat) : ∀ q, nv (dg x) q = x % BB ^ q
 | 0=>by simp[nv,Nat.mod_one]
 | q+1=>by
  unfold nv;rw[nv_dg x q,Nat.mod_pow_succ];rfl
theorem dg_nv {d : Nat → Nat} : ∀ {q i : Nat}, DOk q d → i < q → dg (nv d q) i = d i
 | 0,_,_,h=>by omega
 | q+1,i,h,hi=>by
  have h1:=yK (h.mono (Nat.le_succ q));unfold nv dg;rcases Nat.lt_or_ge i q with e | e
  ·have:=dg_nv (h.mono (Nat.le_succ q)) e;unfold dg at this;have hp:BB^q*d q=BB^i*(BB*(BB^(q-i-1)*d q)):=by
    rw[<- Nat.mul_assoc,<- Nat.mul_assoc,<- Nat.pow_succ,<- Nat.pow_add];congr 2;omega
   rw[hp,Nat.add_mul_div_left _ _ (ww i),Nat.add_mul_mod_self_left];exact this
  ·obtain rfl:i=q:=by omega
   rw[Nat.add_mul_div_left _ _ (ww i),Nat.div_eq_of_lt h1,Nat.zero_add];exact Nat.mod_eq_of_lt (h i (by omega))
theorem nv_mod {d:Nat->Nat} {q i:Nat} (h:DOk q d) (hi:i<=q):nv d q%BB^i=nv d i:=by
 rw[<- nv_dg];exact WX fun j hj=>dg_nv h (by omega)
theorem tn_le (d : Nat → Nat) : ∀ n, tn d n ≤ n
 | 0=>Nat.le_refl _
 | n+1=>by
  unfold tn;split
  ·exact Nat.le_succ_of_le (tn_le d n)
  ·exact Nat.le_refl _
theorem nv_tn (d : Nat → Nat) : ∀ n, nv d (tn d n) = nv d n
 | 0=>rfl
 | n+1=>by
  unfold tn;split
  ·rename_i h;rw[nv_tn d n];show _=nv d n+BB^n*d n;rw[h];rfl
  ·rfl
theorem tn_top {d : Nat → Nat} : ∀ {n k : Nat}, tn d n = k + 1 → d k ≠ 0
 | 0,_,h=>by simp[tn]at h
 | n+1,k,h=>by
  unfold tn at h;split at h
  ·exact tn_top h
  ·rename_i h0;obtain rfl:n=k:=by omega
   exact h0
theorem nv_top {d:Nat->Nat} {k:Nat} (h:d k≠0):BB^k<=nv d (k+1):=by
 unfold nv;have:BB^k*1<=BB^k*d k:=Nat.mul_le_mul_left _ (by omega);omega
abbrev ld (l:List Nat):Nat->Nat:=fun i=>l.getD i 0
theorem jK {l:List Nat} (h:Dg.ok l) (q:Nat):DOk q (ld l):=fun i _=>Dg.ok_getD h i
theorem nv_take (l : List Nat) : ∀ {k : Nat}, k ≤ l.length → nv (ld l) k = Dg.val (l.take k)
 | 0,_=>by simp[nv,Dg.val]
 | k+1,h=>by
  unfold nv;rw[nv_take l (by omega),Dg.val_take_succ (by omega)];simp[ld,List.getD,List.getElem?_eq_getElem (show k<l.length by omega),Dg.B]
theorem nv_ld (l:List Nat):nv (ld l) l.length=Dg.val l:=by rw[nv_take l (Nat.le_refl _),List.take_length]
def lr (d:Nat->Nat) (q:Nat):List Nat:=(List.range q).map d
theorem lr_val (d : Nat → Nat) : ∀ q, Dg.val (lr d q) = nv d q
 | 0=>rfl
 | q+1=>by
  unfold lr nv;rw[List.range_succ,List.map_append,List.map_singleton,Dg.val_snoc];have:=lr_val d q;unfold lr at this;rw[this,List.length_map,List.length_range];rfl
theorem lr_get (d:Nat->Nat) {q i:Nat} (h:i<q):(lr d q).getD i 0=d i:=by
 simp[lr,List.getD,h]
theorem digs_of {d:Nat->Nat} {q x:Nat} (h:DOk q d) (ht:∀ k,q=k+1->d k≠0) (hx:nv d q=x):q=(qj x).length/\∀ i,i<q->d i=ld (qj x) i:=by
 have e:lr d q=qj x:=digs_unique (fun y hy=>by
   simp only[lr,List.mem_map,List.mem_range]at hy;obtain⟨i,hi,rfl⟩:=hy;exact h i hi) (fun y hy=>by
   cases q with
   | zero=>simp[lr]at hy
   | succ k =>
    have:(lr d (k+1)).getLast? = some (d k):=by simp[lr,List.range_succ]
    rw[this]at hy;injection hy with hy;subst hy;exact ht k rfl) ((lr_val d q).trans hx)
 refine⟨by rw[<- e];simp[lr],fun i hi=>?_⟩;rw[<- e];exact(lr_get d hi).symm
theorem tn_digs {d:Nat->Nat} {n:Nat} (h:DOk n d):tn d n=(qj (nv d n)).length/\∀ i,i<tn d n->d i=ld (qj (nv d n)) i :=
 digs_of (h.mono (tn_le d n)) (fun _ hk=>tn_top hk) (nv_tn d n)
theorem digs_top {x k:Nat} (h:(qj x).length=k+1):ld (qj x) k≠0:=by
 refine vY x _ ?_;rw[List.getLast?_eq_getElem?,h,Nat.add_sub_cancel];show _=some ((qj x)[k]?.getD 0);rw[List.getElem?_eq_getElem (show k<(qj x).length by omega)];rfl
theorem xb (x:Nat):nv (ld (qj x)) (qj x).length=x:=by rw[nv_ld,wQ]
theorem digs_lt {x k:Nat} (h:x<BB^k):(qj x).length<=k:=Dg.length_le_of_val (vY _) (by rw[wQ];exact h)
theorem jY (x:Nat):x<BB^(qj x).length:=by
 have:=Dg.val_lt (zP x);rwa [wQ]at this
theorem gB {x y:Nat} (h:x<=y):(qj x).length<=(qj y).length:=digs_lt (Nat.lt_of_le_of_lt h (jY y))
theorem digs_pow {x k:Nat} (h:(qj x).length=k+1):BB^k<=x:=by
 have:=nv_top (digs_top h);rw[<- h,xb]at this;exact this
theorem vV {x:Nat}:(qj x).length=0↔x=0:=by
 refine⟨fun h=>?_,fun h=>?_⟩
 ·have:=xb x;rw[h]at this;exact this.symm
 ·subst h;rfl
end Rf
end Go.Proofs.YtkmbnldginonbaaGreat
/- Sums, differences and products of digits: plain laws. No condition. -/
namespace Go.Proofs.YtkmbnldginonbaaGreat
open Go.RowKit
namespace Rf
def ext (n:Nat) (a:Nat->Nat) (i:Nat):Nat:=if i<n then a i else 0
theorem ext_ok {n:Nat} {a:Nat->Nat} (h:DOk n a) (q:Nat):DOk q (ext n a):=fun i _=>by
 unfold ext;split
 ·exact h i ‹_›
 ·decide
theorem ext_nv {n : Nat} {a : Nat → Nat} : ∀ {q : Nat}, n ≤ q → nv (ext n a) q = nv a n
 | 0,h=>by
   obtain rfl:n=0:=by omega
   rfl
 | q+1,h=>by
  rcases Nat.lt_or_ge q n with e | e
  ·obtain rfl:n=q+1:=by omega
   exact WX fun i hi=>if_pos hi
  ·show nv (ext n a) q+BB^q*ext n a q=nv a n;rw[ext_nv e,show ext n a q=0 from if_neg (by omega),Nat.mul_zero,Nat.add_zero]
theorem nv_hi {d:Nat->Nat} {q i:Nat} (h:DOk q d) (hi:i<=q):nv d q=nv d i+BB^i*(nv d q / BB^i):=by
 have:=Nat.mod_add_div (nv d q) (BB^i);rw[nv_mod h hi]at this;omega
theorem dg_hi (x y i:Nat):dg (x+BB^(i+1)*y) i=x / BB^i%BB:=by
 unfold dg;rw[Nat.pow_succ,Nat.mul_assoc,Nat.add_mul_div_left _ _ (ww i),Nat.add_mul_mod_self_left]
theorem part_div (x t i:Nat):(x+BB^i*t) / BB^i=x / BB^i+t:=Nat.add_mul_div_left _ _ (ww i)
theorem sum_dig {A B:Nat->Nat} {M i:Nat} (hA:DOk M A) (hB:DOk M B) (hi:i<M):dg (nv A M+nv B M) i=((nv A i+nv B i) / BB^i+A i+B i)%BB:=by
 rw[nv_hi hA (show i+1<=M by omega),nv_hi hB (show i+1<=M by omega)];have e:∀ p q r s:Nat,nv A (i+1)+p*q+(nv B (i+1)+p*s)=(nv A (i+1)+nv B (i+1))+p*(q+s):=fun p q r s=>by rw[Nat.mul_add];omega
 rw[e _ _ 0 _,dg_hi];have e2:nv A (i+1)+nv B (i+1)=(nv A i+nv B i)+BB^i*(A i+B i):=by
  show nv A i+BB^i*A i+(nv B i+BB^i*B i)=_;rw[Nat.mul_add];omega
 rw[e2,part_div,<- Nat.add_assoc]
theorem sum_car (A B:Nat->Nat) (i:Nat):(nv A (i+1)+nv B (i+1)) / BB^(i+1)=((nv A i+nv B i) / BB^i+A i+B i) / BB:=by
 have e2:nv A (i+1)+nv B (i+1)=(nv A i+nv B i)+BB^i*(A i+B i):=by
  show nv A i+BB^i*A i+(nv B i+BB^i*B i)=_;rw[Nat.mul_add];omega
 rw[e2,Nat.pow_succ,<- Nat.div_div_eq_div_mul,part_div,<- Nat.add_assoc]
theorem sum_le1 {A B:Nat->Nat} {i:Nat} (hA:DOk i A) (hB:DOk i B):(nv A i+nv B i) / BB^i<=1:=by
 have h1:=yK hA;have h2:=yK hB;have:(nv A i+nv B i) / BB^i<2:=(Nat.div_lt_iff_lt_mul (ww i)).2 (by omega);omega
theorem sum_top {A B:Nat->Nat} {M:Nat} (hA:DOk M A) (hB:DOk M B):dg (nv A M+nv B M) M=(nv A M+nv B M) / BB^M:=by
 unfold dg;exact Nat.mod_eq_of_lt (Nat.lt_of_le_of_lt (sum_le1 hA hB) (by decide))
def bor (A B:Nat->Nat) (i:Nat):Nat:=if nv A i<nv B i then 1 else 0
theorem dif_split {P b z br br' a0 b0 s t u v:Nat} (h3:b0<=a0+P*br) (h4:z+(br+t)=s+b*br') (h5:v+br'<=u):(a0+P*s+P*b*u)-(b0+P*t+P*b*v)=(a0+P*br-b0)+P*z+P*b*(u-v-br'):=by
 obtain⟨w,rfl⟩:∃ w,u=v+br'+w:=⟨u-(v+br'),by omega⟩;rw[show v+br'+w-v-br'=w by omega];have h6:P*s+P*(b*br')=P*z+P*br+P*t:=by
  rw[<- Nat.mul_add,<- h4,Nat.mul_add,Nat.mul_add];omega
 have e1:P*b*(v+br'+w)=P*b*v+P*(b*br')+P*b*w:=by
  rw[Nat.mul_add,Nat.mul_add,Nat.mul_assoc P b br']
 rw[e1];generalize P*b*v=x1 at *;generalize P*(b*br')=x2 at *;generalize P*b*w=x3 at *;generalize P*br=x4 at *;omega
theorem top_lt {P s t a0 b0:Nat} (ha:a0<P) (hb:b0<P):(s<t->a0+P*s<b0+P*t)/\(s=t->(a0+P*s<b0+P*t↔a0<b0))/\(t<s->¬ a0+P*s<b0+P*t):=by
 refine⟨fun h=>?_,fun h=>?_,fun h=>?_⟩
 ·have:=Nat.mul_le_mul_left P (show s+1<=t from h);rw[Nat.mul_add]at this;omega
 ·subst h;omega
 ·have:=Nat.mul_le_mul_left P (show t+1<=s from h);rw[Nat.mul_add]at this;omega
theorem top_le {P s t a0 b0:Nat} (ha:a0<P) (h:b0+P*t<=a0+P*s):t<=s:=by
 rcases Nat.lt_or_ge s t with e | e
 ·have:=Nat.mul_le_mul_left P (show s+1<=t from e);rw[Nat.mul_add]at this;omega
 ·exact e
theorem dif_place {A B:Nat->Nat} {M i z br br' u v:Nat} (a1:nv A M=nv A i+BB^i*A i+BB^i*BB*u) (b1:nv B M=nv B i+BB^i*B i+BB^i*BB*v) (hz:z<BB) (h2:nv A i+BB^i*br-nv B i<BB^i) (h3:nv B i<=nv A i+BB^i*br) (h4:z+(br+B i)=A i+BB*br') (h5:v+br'<=u):dg (nv A M-nv B M) i=z:=by
 rw[a1,b1,dif_split h3 h4 h5,<- Nat.pow_succ,dg_hi,part_div,Nat.div_eq_of_lt h2,Nat.zero_add];exact Nat.mod_eq_of_lt hz
theorem dif_dig {A B : Nat → Nat} {M i : Nat} (hA : DOk M A) (hB : DOk M B) (hi : i < M) (hle : nv B M ≤ nv A M) :
  (A i<bor A B i+B i->bor A B (i+1)=1/\dg (nv A M-nv B M) i+(bor A B i+B i)=A i+BB)/\(¬ A i<bor A B i+B i->bor A B (i+1)=0/\dg (nv A M-nv B M) i+(bor A B i+B i)=A i):=by
 obtain⟨u,a1⟩:∃ u,nv A M=nv A (i+1)+BB^(i+1)*u:=⟨_,nv_hi hA (show i+1<=M by omega)⟩;obtain⟨v,b1⟩:∃ v,nv B M=nv B (i+1)+BB^(i+1)*v:=⟨_,nv_hi hB (show i+1<=M by omega)⟩;have lA:=yK (hA.mono (show i<=M by omega));have lB:=yK (hB.mono (show i<=M by omega));have lA':=yK (hA.mono (show i+1<=M by omega));have lB':=yK (hB.mono (show i+1<=M by omega));have oA:=hA i hi;have oB:=hB i hi;have a2:nv A (i+1)=nv A i+BB^i*A i:=rfl;have b2:nv B (i+1)=nv B i+BB^i*B i:=rfl;have hv0:v<=u:=top_le (s:=u) (t:=v) lA' (by rw[<- a1,<- b1];exact hle);have hv:nv A (i+1)<nv B (i+1)->v+1<=u:=fun h=>by
  rcases Nat.lt_or_ge v u with e | e
  ·exact e
  ·obtain rfl:u=v:=by omega
   rw[a1,b1]at hle;omega
 have ht:=top_lt (s:=A i) (t:=B i) lA lB;rw[<- a2,<- b2]at ht;have a3:=a1;have b3:=b1;rw[a2,Nat.pow_succ]at a3;rw[b2,Nat.pow_succ]at b3;have key:∀ z br br',z<BB->nv A i+BB^i*br-nv B i<BB^i->nv B i<=nv A i+BB^i*br->z+(br+B i)=A i+BB*br'->v+br'<=u->dg (nv A M-nv B M) i=z:=fun z br br' k1 k2 k3 k4 k5=>dif_place a3 b3 k1 k2 k3 k4 k5;clear a3 b3 a1 b1 hle a2 b2;unfold bor;generalize dg (nv A M-nv B M) i=d at key ⊢
 generalize nv A (i+1)=a1 at ht hv ⊢
 generalize nv B (i+1)=b1 at ht hv ⊢
 generalize BB^i=P at *;by_cases c:nv A i<nv B i
 ·rw[if_pos c];refine⟨fun h=>?_,fun h=>?_⟩
  ·have hlt:a1<b1:=by
    rcases Nat.lt_or_ge (A i) (B i)with e | e
    ·exact ht.1 e
    ·exact(ht.2.1 (by omega)).2 c
   rw[if_pos hlt];have:=key (A i+BB-(1+B i)) 1 1 (by omega) (by rw[Nat.mul_one];omega) (by rw[Nat.mul_one];omega) (by omega) (hv hlt);exact⟨rfl,by omega⟩
  ·have hlt:¬ a1<b1:=ht.2.2 (by omega);rw[if_neg hlt];have:=key (A i-(1+B i)) 1 0 (by omega) (by rw[Nat.mul_one];omega) (by rw[Nat.mul_one];omega) (by omega) hv0;exact⟨rfl,by omega⟩
 ·rw[if_neg c];refine⟨fun h=>?_,fun h=>?_⟩
  ·have hlt:a1<b1:=ht.1 (by omega);rw[if_pos hlt];have:=key (A i+BB-B i) 0 1 (by omega) (by rw[Nat.mul_zero];omega) (by rw[Nat.mul_zero];omega) (by omega) (hv hlt);exact⟨rfl,by omega⟩
  ·have hlt:¬ a1<b1:=by
    rcases Nat.lt_or_ge (B i) (A i)with e | e
    ·exact ht.2.2 e
    ·exact fun h=>c ((ht.2.1 (by omega)).1 h)
   rw[if_neg hlt];have:=key (A i-B i) 0 0 (by omega) (by rw[Nat.mul_zero];omega) (by rw[Nat.mul_zero];omega) (by omega) hv0;exact⟨rfl,by omega⟩
def upd (d:Nat->Nat) (j v i:Nat):Nat:=if i=j then v else d i
theorem upd_ok {d:Nat->Nat} {q j v:Nat} (h:DOk q d) (hv:v<BB):DOk q (upd d j v):=fun i hi=>by
 unfold upd;split
 ·exact hv
 ·exact h i hi
theorem nv_upd {d : Nat → Nat} {j v : Nat} : ∀ {q : Nat}, j < q → nv (upd d j v) q + BB ^ j * d j = nv d q + BB ^ j * v
 | 0,h=>by omega
 | q+1,h=>by
  unfold nv;rcases Nat.lt_or_ge j q with e | e
  ·have h1:=nv_upd (d:=d) (v:=v) e;have h2:upd d j v q=d q:=if_neg (by omega);rw[h2];omega
  ·obtain rfl:j=q:=by omega
   have h1:nv (upd d j v) j=nv d j:=WX fun i hi=>if_neg (by omega);have h2:upd d j v j=v:=if_pos rfl;rw[h1,h2];omega
end Rf
end Go.Proofs.YtkmbnldginonbaaGreat
/- The document's integers: trim, Norm, Sign, signed, Abs, Neg, Of. -/
namespace Go.Proofs.YtkmbnldginonbaaGreat
open Go.RowKit
namespace Rf
theorem i64 {n:Int} (h1 : -9223372036854775808<=n) (h2:n<9223372036854775808):inR .i64 n:=⟨h1,h2⟩
abbrev dn (q:Nat) (d:Nat->Nat):Cell := .row 1 q fun i _ => .int .u32 (d i:Nat)
abbrev bn (s:Bool) (q:Nat) (d:Nat->Nat):V := .g [.bool s,dn q d]
theorem subDn {n m:Nat} {a b:Nat->Nat} (h:n=m) (h2:∀ i,i<m->a i=b i):Sub (.c (dn n a)) (.c (dn m b)) :=
 zg h fun i _ hi _=>by show Cell.int .u32 (a i:Nat) = .int .u32 (b i:Nat);rw[h2 i hi]
theorem subBn {s s':Bool} {n m:Nat} {a b:Nat->Nat} (hs:s=s') (h:n=m) (h2:∀ i,i<m->a i=b i):Sub (bn s n a) (bn s' m b):=by
 subst hs;rintro D w v ⟨vs,e,hr⟩;refine⟨vs,e,?_⟩;match hvs:vs.toList with
 | [_,_] =>
  rw[hvs]at hr;exact⟨hr.1,subDn h h2 D w _ hr.2.1,trivial⟩
 | [] | [_] | _ :: _ :: _ :: _=>rw[hvs]at hr;simp[CRels]at hr
theorem z7 {a b:Bool} (h:a=b):Sub (.c (.bool a)) (.c (.bool b)):=by subst h;exact Sub.refl _
theorem sub_int {k:IntKind} {a b:Int} (h:a=b):Sub (.c (.int k a)) (.c (.int k b)):=by subst h;exact Sub.refl _
theorem appZ (f g:Nat->Nat->Cell) (x y:Nat):zB 0 f g x y=g x y:=by
 unfold zB;rw[if_neg (Nat.not_lt_zero _),Nat.sub_zero]
theorem sgn_neg (s:Bool) (x:Nat):decide (sgn s x<0)=(s&&decide (0<x)):=by
 cases s <;> simp[sgn]
theorem sgn_abs (s:Bool) (x:Nat):(sgn s x).natAbs=x:=by
 cases s <;> simp[sgn]
theorem nz_sgn (s:Bool) (x:Nat):nz (sgn s x)=[.bool (s&&decide (0<x)),dsC (qj x)]:=by
 show [Cell.bool (decide (sgn s x<0)),dsC (qj (sgn s x).natAbs)]=_;rw[sgn_neg,sgn_abs]
theorem sgn_sign (s:Bool) (x:Nat):(sgn s x).sign=if x=0 then 0 else if s then -1 else 1:=by
 by_cases h:x=0
 ·subst h;cases s <;> rfl
 ·rw[if_neg h];cases s with
  | true=>exact Int.sign_eq_neg_one_of_neg (by simp[sgn];omega)
  | false=>exact Int.sign_eq_one_of_pos (by simp[sgn];omega)
theorem gy {n:Nat} {a:Nat->Nat} (hd:DOk n a) (hn:n<=1048576):FnOK Tryz.prog false 150 [.c (dn n a)] (.c (dsC (qj (nv a n)))):=by
 obtain⟨hT1,hT2⟩:=tn_digs hd;refine qV (E:=E0) qw Tryz.func150 rfl mixed (by kernel_rfl) (by kernel_rfl) ?_;conv=>whnf
 refine qK (fun m:Nat=>gst [(0,.c (dn n a)),(3,.c (.int .i64 m))] []) (fun m=>m) (fun m=>m<=n/\tn a m=tn a n) n rfl (Weak.gen [] rfl trivial ⟨rO rfl,⟨_,rfl,rfl⟩,trivial⟩) ⟨by omega,rfl⟩ fun m ⟨hm,ht⟩=>?_;conv=>whnf
 refine qg (fun(h:gw true (decide ((0:Int)<m))=true)=>?_) fun(h:gw true (decide ((0:Int)<m))=false)=>?_
 ·have h:=of_decide_eq_true (xK.1 h);obtain⟨k,rfl⟩:∃ k,m=k+1:=⟨m-1,by omega⟩;have ek:(((k+1:Nat):Int)-1).toNat=k:=by omega
  conv=>whnf
  refine⟨i64 (by omega) (by omega),?_⟩;conv=>whnf
  refine⟨by omega,by omega,?_⟩;conv=>whnf
  refine qg (fun(h1:decide ((a (((k+1:Nat):Int)-1).toNat:Int)=0)=true)=>?_) fun(h1:decide ((a (((k+1:Nat):Int)-1).toNat:Int)=0)=false)=>?_
  ·have h1:=of_decide_eq_true h1;rw[ek]at h1;conv=>whnf
   refine⟨i64 (by omega) (by omega),?_⟩;conv=>whnf
   exact⟨k,by omega,Weak.gen [] rfl trivial ⟨rO rfl,⟨_,rfl,by omega⟩,trivial⟩,by omega,by rw[<- ht];simp[tn,show a k=0 by omega]⟩
  ·have h1:=of_decide_eq_false h1;rw[ek]at h1;have hx:tn a n=k+1:=by rw[<- ht];simp[tn,show a k≠0 by omega]
   rw[hx]at hT1 hT2;conv=>whnf
   refine⟨by omega,by omega,?_⟩;conv=>whnf
   refine⟨by omega,?_⟩;conv=>whnf
   refine⟨by show 0+(((k+1:Nat):Int)-0).toNat<=16777216;omega,fun x y hx hy=>⟨rfl,fun h=>by cases h⟩,?_⟩;conv=>whnf
   refine⟨fun i j hi hj=>?_,?_⟩
   ·show(zB 0 (xJ 1 []) (fun i _=>Cell.int .u32 (a (Int.toNat 0+i):Nat)) i j).clos=true;rw[appZ];rfl
   conv=>whnf
   refine⟨rfl,zg (by show 0+(((k+1:Nat):Int)-0).toNat=_;omega) fun i j hi hj=>?_⟩;show zB 0 (xJ 1 []) (fun i _=>Cell.int .u32 (a (Int.toNat 0+i):Nat)) i j=_;rw[appZ,show Int.toNat 0+i=i by omega,hT2 i (by omega)]
 ·have h:¬(0:Int)<m:=of_decide_eq_false (jv.1 h);obtain rfl:m=0:=by omega
  have hx:tn a n=0:=by rw[<- ht];rfl
  rw[hx]at hT1 hT2;conv=>whnf
  refine⟨by omega,by omega,?_⟩;conv=>whnf
  refine⟨by omega,?_⟩;conv=>whnf
  refine⟨by show 0+(((0:Nat):Int)-0).toNat<=16777216;omega,fun x y hx hy=>⟨rfl,fun h=>by cases h⟩,?_⟩;conv=>whnf
  refine⟨fun i j hi hj=>?_,?_⟩
  ·show(zB 0 (xJ 1 []) (fun i _=>Cell.int .u32 (a (Int.toNat 0+i):Nat)) i j).clos=true;rw[appZ];rfl
  conv=>whnf
  refine⟨rfl,zg (by show 0+(((0:Nat):Int)-0).toNat=_;omega) fun i j hi hj=>?_⟩;omega
theorem rnorm_ok {n:Nat} {a:Nat->Nat} {s:Bool} (hd:DOk n a) (hn:n<=1048576):FnOK Tryz.prog false 145 [bn s n a] (.g (nz (sgn s (nv a n)))):=by
 have h:=gy hd hn;have h0:=@vV (nv a n);rw[nz_sgn];refine qV (E:=E0) qw Tryz.func145 rfl mixed (by kernel_rfl) (by kernel_rfl) ?_;cases s with
 | true =>
  conv=>whnf
  refine⟨_,h,?_⟩;conv=>whnf
  refine⟨rfl,subBn ?_ rfl fun _ _=>rfl⟩;rw[Bool.true_and];exact decide_eq_decide.2 ⟨fun h=>by omega,fun h=>by omega⟩
 | false =>
  conv=>whnf
  refine⟨_,h,?_⟩;conv=>whnf
  exact⟨rfl,subBn rfl rfl fun _ _=>rfl⟩
theorem v6 {n:Nat} {a:Nat->Nat} {s:Bool} (hd:DOk n a) (hn:n<=1048576):FnOK Tryz.prog false 141 [.c (.bool s),.c (dn n a)] (.g (nz (sgn s (nv a n)))):=by
 have h:=rnorm_ok (s:=s) hd hn;refine qV (E:=E0) qw Tryz.func141 rfl mixed (by kernel_rfl) (by kernel_rfl) ?_;conv=>whnf
 refine⟨_,h,?_⟩;conv=>whnf
 exact⟨rfl,Sub.refl _⟩
theorem rsign_ok {n:Nat} {a:Nat->Nat} {s:Bool} (hd:DOk n a) (hn:n<=1048576):FnOK Tryz.prog false 142 [bn s n a] (.c (.int .i64 (sgn s (nv a n)).sign)):=by
 have h:=rnorm_ok (s:=s) hd hn;have h0:=@vV (nv a n);rw[nz_sgn]at h;rw[sgn_sign];refine qV (E:=E0) qw Tryz.func142 rfl mixed (by kernel_rfl) (by kernel_rfl) ?_;conv=>whnf
 refine⟨_,h,?_⟩;conv=>whnf
 refine qg (fun(h1:decide (((qj (nv a n)).length:Int)=0)=true)=>?_) fun(h1:decide (((qj (nv a n)).length:Int)=0)=false)=>?_
 ·have h1:=of_decide_eq_true h1;rw[if_pos (by omega)];conv=>whnf
  exact⟨rfl,Sub.refl _⟩
 ·have h1:=of_decide_eq_false h1;rw[if_neg (by omega)];cases s with
  | true =>
   conv=>whnf
   refine xG (show decide (0<nv a n)=true by simp;omega) ?_;conv=>whnf
   exact⟨rfl,Sub.refl _⟩
  | false =>
   conv=>whnf
   exact⟨rfl,Sub.refl _⟩
theorem rabs_ok {n:Nat} {a:Nat->Nat} {s:Bool} (hd:DOk n a) (hn:n<=1048576):FnOK Tryz.prog false 163 [bn s n a] (.g (nz (nv a n:Nat))):=by
 have h:=v6 (s:=false) hd hn;refine qV (E:=E0) qw Tryz.func163 rfl mixed (by kernel_rfl) (by kernel_rfl) ?_;conv=>whnf
 refine⟨_,h,?_⟩;conv=>whnf
 exact⟨rfl,Sub.refl _⟩
theorem rneg_ok {n:Nat} {a:Nat->Nat} {s:Bool} (hd:DOk n a) (hn:n<=1048576):FnOK Tryz.prog false 144 [bn s n a] (.g (nz (sgn (!s) (nv a n)))):=by
 have h:=v6 (s:=!s) hd hn;refine qV (E:=E0) qw Tryz.func144 rfl mixed (by kernel_rfl) (by kernel_rfl) ?_;conv=>whnf
 refine⟨_,h,?_⟩;conv=>whnf
 exact⟨rfl,Sub.refl _⟩
theorem nv_raw (a:RawZ):sgn a.neg (nv (ld a.ds) a.ds.length)=a.val:=by rw[nv_ld];rfl
def wr (a:RawZ):Prop:=Dg.ok a.ds/\a.ds.length<=1048576
theorem UQ {a:RawZ} (h:wr a):FnOK Tryz.prog false 145 [.g (zr a)] (.g (nz a.val)):=by
 have:=rnorm_ok (s:=a.neg) (jK h.1 a.ds.length) h.2;rwa [nv_raw]at this
theorem zsign_ok {a:RawZ} (h:wr a):FnOK Tryz.prog false 142 [.g (zr a)] (.c (.int .i64 a.val.sign)):=by
 have:=rsign_ok (s:=a.neg) (jK h.1 a.ds.length) h.2;rwa [nv_raw]at this
theorem zabs_ok {a:RawZ} (h:wr a):FnOK Tryz.prog false 163 [.g (zr a)] (.g (nz (a.val.natAbs:Nat))):=by
 have:=rabs_ok (s:=a.neg) (jK h.1 a.ds.length) h.2;rwa [show nv (ld a.ds) a.ds.length=a.val.natAbs by rw[<- nv_raw,sgn_abs]]at this
theorem sgn_not (s:Bool) (x:Nat):sgn (!s) x = -sgn s x:=by
 cases s <;> simp[sgn]
theorem zneg_ok {a:RawZ} (h:wr a):FnOK Tryz.prog false 144 [.g (zr a)] (.g (nz (-a.val))):=by
 have:=rneg_ok (s:=a.neg) (jK h.1 a.ds.length) h.2;rwa [sgn_not,nv_raw]at this
theorem arg_ok {P:Program} {r:Bool} {f:FuncId} {args args':List V} {X:V} (h:FnOK P r f args X) (hs:∀ D w vs,VRels D w [] args' vs->VRels D w [] args vs):FnOK P r f args' X :=
 ⟨h.1,fun D w vs h1 h2 h3=>h.2 D w vs h1 h2 (hs D w vs h3)⟩
theorem w32_lo (m:Nat):IntKind.u32.wrap (m:Int)=(dg m 0:Nat):=by
 simp[IntKind.wrap,IntKind.signed,IntKind.bits,dg]
theorem w32_hi (m:Nat):IntKind.u32.wrap (Int.fdiv (m:Int) (2^32))=(dg m 1:Nat):=by
 rw[Int.fdiv_eq_ediv_of_nonneg _ (by decide)];simp[IntKind.wrap,IntKind.signed,IntKind.bits,dg]
theorem rof_ok {x:Int} (h0 : -9223372036854775808<=x) (h1:x<9223372036854775808):FnOK Tryz.prog false 101 [.c (.int .i64 x)] (.g (nz x)):=by
 have hk:∀ s:Bool,decide (x<0)=s->FnOK Tryz.prog false 141 [.c (.bool s),.c (dn 2 fun i=>dg x.natAbs i)] (.g (nz x)):=by
  intro s hs;have:=v6 (s:=s) (dg_ok x.natAbs 2) (by omega);rw[nv_dg,Nat.mod_eq_of_lt (show x.natAbs<4294967296^2 by omega)]at this;rwa [show sgn s x.natAbs=x by subst hs;unfold sgn;by_cases c:x<0 <;> simp[c] <;> omega]at this
 have w1:0<=x->IntKind.u64.wrap x=(x.natAbs:Nat):=fun h=>by
  simp[IntKind.wrap,IntKind.signed,IntKind.bits];omega
 have w2:x<0->IntKind.u64.wrap (-IntKind.u64.wrap x)=(x.natAbs:Nat):=fun h=>by
  simp[IntKind.wrap,IntKind.signed,IntKind.bits];omega
 have hk:=arg_ok (args':=[.c (.bool (decide (x<0))),.c (.row 1 2 fun i _=>if i=0 then .int .u32 (IntKind.u32.wrap (x.natAbs:Nat))else .int .u32 (IntKind.u32.wrap (Int.fdiv (x.natAbs:Nat) (2^32))))]) (hk _ rfl) fun D w vs h=>by
  match vs,h with
  | [v0,v1],⟨h0,h1,_⟩ =>
   refine⟨h0,zg rfl (fun i j hi hj=>?_) D w v1 h1,trivial⟩;match i,hi with
   | 0,_=>show Cell.int .u32 _ = .int .u32 _;rw[w32_lo]
   | 1,_=>show Cell.int .u32 _ = .int .u32 _;rw[w32_hi]
 refine qV (E:=E0) qw Tryz.func101 rfl mixed (by kernel_rfl) (by kernel_rfl) ?_;conv=>whnf
 refine qg (fun(h:decide (x<0)=true)=>?_) fun(h:decide (x<0)=false)=>?_
 ·have w2:=w2 (of_decide_eq_true h);rw[<- w2]at hk;conv=>whnf
  refine⟨by omega,?_⟩;conv=>whnf
  refine⟨fun i j hi hj=>?_,?_⟩
  ·match i,j,hi,hj with
   | 0,0,_,_=>rfl
   | 1,0,_,_=>rfl
  conv=>whnf
  refine⟨_,arg_ok hk (fun D w vs h=>?_),?_⟩
  ·match vs,h with
   | [v0,v1],⟨h0,h1,_⟩ =>
    refine⟨h0,zg rfl (fun i j hi hj=>?_) D w v1 h1,trivial⟩;match i,j,hi,hj with
    | 0,0,_,_=>rfl
    | 1,0,_,_=>rfl
  conv=>whnf
  exact⟨rfl,Sub.refl _⟩
 ·have w1:=w1 (Int.not_lt.1 (of_decide_eq_false h));rw[<- w1]at hk;conv=>whnf
  refine⟨by omega,?_⟩;conv=>whnf
  refine⟨fun i j hi hj=>?_,?_⟩
  ·match i,j,hi,hj with
   | 0,0,_,_=>rfl
   | 1,0,_,_=>rfl
  conv=>whnf
  refine⟨_,arg_ok hk (fun D w vs h=>?_),?_⟩
  ·match vs,h with
   | [v0,v1],⟨h0,h1,_⟩ =>
    refine⟨h0,zg rfl (fun i j hi hj=>?_) D w v1 h1,trivial⟩;match i,j,hi,hj with
    | 0,0,_,_=>rfl
    | 1,0,_,_=>rfl
  conv=>whnf
  exact⟨rfl,Sub.refl _⟩
end Rf
end Go.Proofs.YtkmbnldginonbaaGreat
/- The document's sums and differences of digits. -/
namespace Go.Proofs.YtkmbnldginonbaaGreat
open Go.RowKit
namespace Rf
theorem w64 {x:Int} (h0:0<=x) (h1:x<18446744073709551616):IntKind.u64.wrap x=x:=by
 simp[IntKind.wrap,IntKind.signed,IntKind.bits];omega
theorem w32 (s:Nat):IntKind.u32.wrap (s:Int)=(s%BB:Nat):=by
 simp[IntKind.wrap,IntKind.signed,IntKind.bits]
theorem sh32 (s:Nat):Int.fdiv (s:Int) (2^32)=(s / BB:Nat):=by
 rw[Int.fdiv_eq_ediv_of_nonneg _ (by decide)];simp
theorem appN {d:Nat->Nat} {i j k m:Nat} {v:Int} (hj:j<m) (hm:m<=i+1) (hk:k<1) (h:v=(d i:Nat)):zB i (fun j _ => .int .u32 (d j:Nat)) (xJ 1 [.int .u32 v]) j k = .int .u32 (d j:Nat):=by
 unfold zB;by_cases e:j<i
 ·rw[if_pos e]
 ·obtain rfl:j=i:=by omega
  obtain rfl:k=0:=by omega
  rw[if_neg e,Nat.sub_self,h];rfl
theorem kG {bl:List Blk} {F:Nat->Nat->Cell} {x y:Nat} (hx:x<1) (hy:y<1) (h:St.one bl (F 0 0)=true):St.one bl (F x y)=true:=by
 obtain rfl:=Nat.lt_one_iff.1 hx;obtain rfl:=Nat.lt_one_iff.1 hy;exact h
theorem rowF_clos {sz x y:Nat} {l:List Cell} (h:l.all Cell.clos=true):(xJ sz l x y).clos=true:=by
 unfold xJ;rw[List.getD_eq_getElem?_getD];cases e:l[x*sz+y]? with
 | none=>rfl
 | some c=>exact List.all_eq_true.1 h _ (List.mem_of_getElem? e)
theorem appF_clos {n:Nat} {f g:Nat->Nat->Cell} (hf:∀ x y,(f x y).clos=true) (hg:∀ x y,(g x y).clos=true) (x y:Nat):(zB n f g x y).clos=true:=by
 unfold zB;split
 ·exact hf _ _
 ·exact hg _ _
abbrev gd (q:Nat) (d:Nat->Nat):Gx:=⟨119,1,q,fun i _ => .int .u32 (d i:Nat)⟩
theorem plus_ok {n m:Nat} {a b:Nat->Nat} (ha:DOk n a) (hb:DOk m b) (hn:n<=1048576) (hm:m<=1048576):FnOK Tryz.prog false 147 [.c (dn n a),.c (dn m b)] (.c (dn (max n m+1) (dg (nv a n+nv b m)))):=by
 obtain⟨M,hM⟩:∃ M,M=max n m:=⟨_,rfl⟩;rw[<- hM];have eS:nv (ext n a) M+nv (ext m b) M=nv a n+nv b m:=by rw[ext_nv (by omega),ext_nv (by omega)]
 have hA:=ext_ok ha;have hB:=ext_ok hb;obtain⟨c,hc⟩:∃ c:Nat->Nat,c=fun i=>(nv (ext n a) i+nv (ext m b) i) / BB^i:=⟨_,rfl⟩;have c0:c 0=0:=by rw[hc];simp[nv]
 have c1:∀ i,c i<=1:=fun i=>by rw[hc];exact sum_le1 (hA i) (hB i)
 have cs:∀ i,c (i+1)=(c i+ext n a i+ext m b i) / BB:=fun i=>by rw[hc];exact sum_car _ _ i
 have ds:∀ i,i<M->dg (nv a n+nv b m) i=(c i+ext n a i+ext m b i)%BB:=fun i hi=>by rw[<- eS,hc];exact sum_dig (hA M) (hB M) hi
 have dt:dg (nv a n+nv b m) M=c M:=by rw[<- eS,hc];exact sum_top (hA M) (hB M)
 clear hc eS;refine qV (E:=E0) qw Tryz.func147 rfl mixed (by kernel_rfl) (by kernel_rfl) ?_;conv=>whnf
 refine qK (fun i:Nat=>gst [(0,.c (dn n a)),(1,.c (dn m b)),(5,.c (.gs 0 0)),(6,.c (.int .u64 (c i:Nat))),(7,.c (.int .i64 i))] [gd i (dg (nv a n+nv b m))]) (fun i=>M-i) (fun i=>i<=M) 0 rfl ?_ (Nat.zero_le _) fun i hi=>?_
 ·exact Weak.gen [none] rfl ⟨rfl,trivial⟩ ⟨rO rfl,rO rfl,rfl,⟨_,rfl,by rw[c0];rfl⟩,⟨_,rfl,rfl⟩,trivial⟩
 have hci:=c1 i;conv=>whnf
 refine qg (fun(h:gw false (decide ((i:Int)<n))=true)=>?_) fun(h:gw false (decide ((i:Int)<n))=false)=>?_
 ·have h1:decide ((i:Int)<n)=false:=gwf h;have h1':=of_decide_eq_false h1;conv=>whnf
  refine qg (fun(h2:decide ((i:Int)<m)=true)=>?_) fun(h2:decide ((i:Int)<m)=false)=>?_
  ·have h2':=of_decide_eq_true h2;have eA:ext n a i=0:=if_neg (by omega);have eB:ext m b i=b i:=if_pos (by omega);have ob:b i<4294967296:=hb i (by omega);have e:IntKind.u64.wrap ((c i:Int)+IntKind.u64.wrap (b i:Nat))=((c i+0+b i:Nat):Int):=by rw[w64 (x:=(b i:Nat)) (by omega) (by omega),w64 (by omega) (by omega)];omega
   conv=>whnf
   refine jj h1 ?_;conv=>whnf
   refine xG h2 ?_;conv=>whnf
   refine⟨by omega,by omega,?_⟩;conv=>whnf
   refine⟨by show i+1<=16777216;omega,fun x y hx hy=>?_,?_⟩
   ·conv at hx=>rhs;whnf
    conv at hy=>rhs;whnf
    refine⟨kG hx hy ?_,fun h=>nomatch h⟩;conv=>lhs;whnf
   conv=>whnf
   refine⟨by omega,?_⟩;conv=>whnf
   refine⟨i64 (by omega) (by omega),?_⟩;conv=>whnf
   refine⟨i+1,by omega,Weak.gen [some 0] rfl ⟨⟨_,rfl,rfl,rfl,rfl,rfl,fun j k hj hk=>⟨_,appN hj (Nat.le_refl _) hk ?_,rfl⟩⟩,trivial⟩ ⟨rO rfl,rO rfl,⟨_,rfl,rfl,rfl⟩,⟨_,rfl,?_⟩,⟨_,rfl,by omega⟩,trivial⟩,by omega⟩
   ·show IntKind.u32.wrap (IntKind.u64.wrap ((c i:Int)+IntKind.u64.wrap (b i:Nat)))=(dg (nv a n+nv b m) i:Nat);rw[e,w32,ds i (by omega),eA,eB]
   ·show Int.fdiv (IntKind.u64.wrap ((c i:Int)+IntKind.u64.wrap (b i:Nat))) (2^32)=(c (i+1):Nat);rw[e,sh32,cs i,eA,eB]
  ·have h2':=of_decide_eq_false h2;obtain rfl:i=M:=by omega
   conv=>whnf
   refine⟨by show i+1<=16777216;omega,fun x y hx hy=>?_,?_⟩
   ·conv at hx=>rhs;whnf
    conv at hy=>rhs;whnf
    refine⟨kG hx hy ?_,fun h=>nomatch h⟩;conv=>lhs;whnf
   conv=>whnf
   refine⟨fun x y _ _=>appF_clos (fun _ _=>rfl) (fun _ _=>rowF_clos rfl) x y,?_⟩;conv=>whnf
   refine⟨rfl,zg rfl fun x y hx hy=>appN hx (Nat.le_refl _) hy ?_⟩;show IntKind.u32.wrap (c i:Nat)=(dg (nv a n+nv b m) i:Nat);rw[w32,dt,Nat.mod_eq_of_lt (show c i<4294967296 by omega)]
 ·have h1:decide ((i:Int)<n)=true:=gwf' h;have h1':=of_decide_eq_true h1;have eA:ext n a i=a i:=if_pos (by omega);have oa:a i<4294967296:=ha i (by omega);have e0:IntKind.u64.wrap ((c i:Int)+IntKind.u64.wrap (a i:Nat))=((c i+a i:Nat):Int):=by rw[w64 (x:=(a i:Nat)) (by omega) (by omega),w64 (by omega) (by omega)];omega
  conv=>whnf
  refine xG h1 ?_;conv=>whnf
  refine⟨by omega,by omega,?_⟩;conv=>whnf
  refine qg (fun(h2:decide ((i:Int)<m)=true)=>?_) fun(h2:decide ((i:Int)<m)=false)=>?_
  ·have h2':=of_decide_eq_true h2;have eB:ext m b i=b i:=if_pos (by omega);have ob:b i<4294967296:=hb i (by omega);have e:IntKind.u64.wrap (IntKind.u64.wrap ((c i:Int)+IntKind.u64.wrap (a i:Nat))+IntKind.u64.wrap (b i:Nat))=((c i+a i+b i:Nat):Int):=by rw[e0,w64 (x:=(b i:Nat)) (by omega) (by omega),w64 (by omega) (by omega)];omega
   conv=>whnf
   refine⟨by omega,by omega,?_⟩;conv=>whnf
   refine⟨by show i+1<=16777216;omega,fun x y hx hy=>?_,?_⟩
   ·conv at hx=>rhs;whnf
    conv at hy=>rhs;whnf
    refine⟨kG hx hy ?_,fun h=>nomatch h⟩;conv=>lhs;whnf
   conv=>whnf
   refine⟨by omega,?_⟩;conv=>whnf
   refine⟨i64 (by omega) (by omega),?_⟩;conv=>whnf
   refine⟨i+1,by omega,Weak.gen [some 0] rfl ⟨⟨_,rfl,rfl,rfl,rfl,rfl,fun j k hj hk=>⟨_,appN hj (Nat.le_refl _) hk ?_,rfl⟩⟩,trivial⟩ ⟨rO rfl,rO rfl,⟨_,rfl,rfl,rfl⟩,⟨_,rfl,?_⟩,⟨_,rfl,by omega⟩,trivial⟩,by omega⟩
   ·show IntKind.u32.wrap (IntKind.u64.wrap (IntKind.u64.wrap ((c i:Int)+IntKind.u64.wrap (a i:Nat))+IntKind.u64.wrap (b i:Nat)))=(dg (nv a n+nv b m) i:Nat);rw[e,w32,ds i (by omega),eA,eB]
   ·show Int.fdiv (IntKind.u64.wrap (IntKind.u64.wrap ((c i:Int)+IntKind.u64.wrap (a i:Nat))+IntKind.u64.wrap (b i:Nat))) (2^32)=(c (i+1):Nat);rw[e,sh32,cs i,eA,eB]
  ·have h2':=of_decide_eq_false h2;have eB:ext m b i=0:=if_neg (by omega);conv=>whnf
   refine⟨by show i+1<=16777216;omega,fun x y hx hy=>?_,?_⟩
   ·conv at hx=>rhs;whnf
    conv at hy=>rhs;whnf
    refine⟨kG hx hy ?_,fun h=>nomatch h⟩;conv=>lhs;whnf
   conv=>whnf
   refine⟨by omega,?_⟩;conv=>whnf
   refine⟨i64 (by omega) (by omega),?_⟩;conv=>whnf
   refine⟨i+1,by omega,Weak.gen [some 0] rfl ⟨⟨_,rfl,rfl,rfl,rfl,rfl,fun j k hj hk=>⟨_,appN hj (Nat.le_refl _) hk ?_,rfl⟩⟩,trivial⟩ ⟨rO rfl,rO rfl,⟨_,rfl,rfl,rfl⟩,⟨_,rfl,?_⟩,⟨_,rfl,by omega⟩,trivial⟩,by omega⟩
   ·show IntKind.u32.wrap (IntKind.u64.wrap ((c i:Int)+IntKind.u64.wrap (a i:Nat)))=(dg (nv a n+nv b m) i:Nat);rw[e0,w32,ds i (by omega),eA,eB,Nat.add_zero]
   ·show Int.fdiv (IntKind.u64.wrap ((c i:Int)+IntKind.u64.wrap (a i:Nat))) (2^32)=(c (i+1):Nat);rw[e0,sh32,cs i,eA,eB,Nat.add_zero]
theorem sub_hi {x s z:Nat} (h:z+s=x+4294967296) (hz:z<4294967296) (hx:x<4294967296):IntKind.u32.wrap (IntKind.u64.wrap (IntKind.u64.wrap (IntKind.u64.wrap (x:Nat)+4294967296)-(s:Nat)))=(z:Nat):=by
 rw[w64 (x:=(x:Nat)) (by omega) (by omega),w64 (x:=(x:Nat)+4294967296) (by omega) (by omega),w64 (x:=(x:Nat)+4294967296-(s:Nat)) (by omega) (by omega),show(x:Int)+4294967296-s=(z:Nat)by omega,w32,Nat.mod_eq_of_lt hz]
theorem sub_lo {x s z:Nat} (h:z+s=x) (hx:x<4294967296):IntKind.u32.wrap (IntKind.u64.wrap (IntKind.u64.wrap (x:Nat)-(s:Nat)))=(z:Nat):=by
 rw[w64 (x:=(x:Nat)) (by omega) (by omega),w64 (by omega) (by omega),show(x:Int)-s=(z:Nat)by omega,w32,Nat.mod_eq_of_lt (show z<4294967296 by omega)]
theorem minus_ok {n m:Nat} {a b:Nat->Nat} (ha:DOk n a) (hb:DOk m b) (hn:n<=1048576) (hm:m<=n) (hle:nv b m<=nv a n):FnOK Tryz.prog false 149 [.c (dn n a),.c (dn m b)] (.c (dn n (dg (nv a n-nv b m)))):=by
 have eB:nv (ext m b) n=nv b m:=ext_nv hm;have hB:=ext_ok hb;obtain⟨c,hc⟩:∃ c:Nat->Nat,c=bor a (ext m b):=⟨_,rfl⟩;have c0:c 0=0:=by rw[hc];simp[bor,nv]
 have c1:∀ i,c i<=1:=fun i=>by rw[hc];unfold bor;split <;> omega
 have cd:∀ i,i<n->(a i<c i+ext m b i->c (i+1)=1/\dg (nv a n-nv b m) i+(c i+ext m b i)=a i+4294967296)/\(¬ a i<c i+ext m b i->c (i+1)=0/\dg (nv a n-nv b m) i+(c i+ext m b i)=a i):=fun i hi=>by
  rw[<- eB,hc];exact dif_dig ha (hB n) hi (by rw[eB];exact hle)
 clear hc eB;refine qV (E:=E0) qw Tryz.func149 rfl mixed (by kernel_rfl) (by kernel_rfl) ?_;conv=>whnf
 refine qK (fun i:Nat=>gst [(0,.c (dn n a)),(1,.c (dn m b)),(5,.c (.gs 0 0)),(6,.c (.int .u64 (c i:Nat))),(7,.c (.int .i64 i))] [gd i (dg (nv a n-nv b m))]) (fun i=>n-i) (fun i=>i<=n) 0 rfl ?_ (Nat.zero_le _) fun i hi=>?_
 ·exact Weak.gen [none] rfl ⟨rfl,trivial⟩ ⟨rO rfl,rO rfl,rfl,⟨_,rfl,by rw[c0];rfl⟩,⟨_,rfl,rfl⟩,trivial⟩
 have hci:=c1 i;have hd0:=cd i;have hb0:=hb i;have ha0:=ha i;conv=>whnf
 refine qg (fun(h1:decide ((i:Int)<n)=true)=>?_) fun(h1:decide ((i:Int)<n)=false)=>?_
 ·have h1':=of_decide_eq_true h1;have oa:a i<4294967296:=ha0 (by omega);have wa:IntKind.u64.wrap (a i:Nat)=(a i:Nat):=w64 (by omega) (by omega);conv=>whnf
  refine qg (fun(h2:decide ((i:Int)<m)=true)=>?_) fun(h2:decide ((i:Int)<m)=false)=>?_
  ·have h2':=of_decide_eq_true h2;have eX:ext m b i=b i:=if_pos (by omega);have ob:b i<4294967296:=hb0 (by omega);have dd:=hd0 (by omega);rw[eX]at dd;have e:IntKind.u64.wrap ((c i:Int)+IntKind.u64.wrap (b i:Nat))=((c i+b i:Nat):Int):=by rw[w64 (x:=(b i:Nat)) (by omega) (by omega),w64 (by omega) (by omega)];omega
   conv=>whnf
   refine⟨by omega,by omega,?_⟩;conv=>whnf
   refine⟨by omega,by omega,?_⟩;conv=>whnf
   refine qg (fun(h3:decide (IntKind.u64.wrap (a i:Nat)<IntKind.u64.wrap ((c i:Int)+IntKind.u64.wrap (b i:Nat)))=true)=>?_) fun(h3:decide (IntKind.u64.wrap (a i:Nat)<IntKind.u64.wrap ((c i:Int)+IntKind.u64.wrap (b i:Nat)))=false)=>?_
   ·have h3':=of_decide_eq_true h3;rw[e,wa]at h3';obtain⟨k1,k2⟩:=dd.1 (by omega);conv=>whnf
    refine⟨by show i+1<=16777216;omega,fun x y hx hy=>?_,?_⟩
    ·conv at hx=>rhs;whnf
     conv at hy=>rhs;whnf
     refine⟨kG hx hy ?_,fun h=>nomatch h⟩;conv=>lhs;whnf
    conv=>whnf
    refine⟨i64 (by omega) (by omega),?_⟩;conv=>whnf
    exact⟨i+1,by omega,Weak.gen [some 0] rfl ⟨⟨_,rfl,rfl,rfl,rfl,rfl,fun j k hj hk=>⟨_,appN hj (Nat.le_refl _) hk (by show IntKind.u32.wrap (IntKind.u64.wrap (IntKind.u64.wrap (IntKind.u64.wrap (a i:Nat)+4294967296)-IntKind.u64.wrap ((c i:Int)+IntKind.u64.wrap (b i:Nat))))=_;rw[e];exact sub_hi k2 (dg_lt _ _) oa),rfl⟩⟩,trivial⟩ ⟨rO rfl,rO rfl,⟨_,rfl,rfl,rfl⟩,⟨_,rfl,by rw[k1];rfl⟩,⟨_,rfl,by omega⟩,trivial⟩,by omega⟩
   ·have h3':=of_decide_eq_false h3;rw[e,wa]at h3';obtain⟨k1,k2⟩:=dd.2 (by omega);conv=>whnf
    refine⟨by show i+1<=16777216;omega,fun x y hx hy=>?_,?_⟩
    ·conv at hx=>rhs;whnf
     conv at hy=>rhs;whnf
     refine⟨kG hx hy ?_,fun h=>nomatch h⟩;conv=>lhs;whnf
    conv=>whnf
    refine⟨i64 (by omega) (by omega),?_⟩;conv=>whnf
    exact⟨i+1,by omega,Weak.gen [some 0] rfl ⟨⟨_,rfl,rfl,rfl,rfl,rfl,fun j k hj hk=>⟨_,appN hj (Nat.le_refl _) hk (by show IntKind.u32.wrap (IntKind.u64.wrap (IntKind.u64.wrap (a i:Nat)-IntKind.u64.wrap ((c i:Int)+IntKind.u64.wrap (b i:Nat))))=_;rw[e];exact sub_lo k2 oa),rfl⟩⟩,trivial⟩ ⟨rO rfl,rO rfl,⟨_,rfl,rfl,rfl⟩,⟨_,rfl,by rw[k1];rfl⟩,⟨_,rfl,by omega⟩,trivial⟩,by omega⟩
  ·have h2':=of_decide_eq_false h2;have eX:ext m b i=0:=if_neg (by omega);have dd:=hd0 (by omega);rw[eX,Nat.add_zero]at dd;have e:((c i:Nat):Int)=((c i:Nat):Int):=rfl;conv=>whnf
   refine⟨by omega,by omega,?_⟩;conv=>whnf
   refine qg (fun(h3:decide (IntKind.u64.wrap (a i:Nat)<(c i:Int))=true)=>?_) fun(h3:decide (IntKind.u64.wrap (a i:Nat)<(c i:Int))=false)=>?_
   ·have h3':=of_decide_eq_true h3;rw[wa]at h3';obtain⟨k1,k2⟩:=dd.1 (by omega);conv=>whnf
    refine⟨by show i+1<=16777216;omega,fun x y hx hy=>?_,?_⟩
    ·conv at hx=>rhs;whnf
     conv at hy=>rhs;whnf
     refine⟨kG hx hy ?_,fun h=>nomatch h⟩;conv=>lhs;whnf
    conv=>whnf
    refine⟨i64 (by omega) (by omega),?_⟩;conv=>whnf
    exact⟨i+1,by omega,Weak.gen [some 0] rfl ⟨⟨_,rfl,rfl,rfl,rfl,rfl,fun j k hj hk=>⟨_,appN hj (Nat.le_refl _) hk (by exact sub_hi k2 (dg_lt _ _) oa),rfl⟩⟩,trivial⟩ ⟨rO rfl,rO rfl,⟨_,rfl,rfl,rfl⟩,⟨_,rfl,by rw[k1];rfl⟩,⟨_,rfl,by omega⟩,trivial⟩,by omega⟩
   ·have h3':=of_decide_eq_false h3;rw[wa]at h3';obtain⟨k1,k2⟩:=dd.2 (by omega);conv=>whnf
    refine⟨by show i+1<=16777216;omega,fun x y hx hy=>?_,?_⟩
    ·conv at hx=>rhs;whnf
     conv at hy=>rhs;whnf
     refine⟨kG hx hy ?_,fun h=>nomatch h⟩;conv=>lhs;whnf
    conv=>whnf
    refine⟨i64 (by omega) (by omega),?_⟩;conv=>whnf
    exact⟨i+1,by omega,Weak.gen [some 0] rfl ⟨⟨_,rfl,rfl,rfl,rfl,rfl,fun j k hj hk=>⟨_,appN hj (Nat.le_refl _) hk (by exact sub_lo k2 oa),rfl⟩⟩,trivial⟩ ⟨rO rfl,rO rfl,⟨_,rfl,rfl,rfl⟩,⟨_,rfl,by rw[k1];rfl⟩,⟨_,rfl,by omega⟩,trivial⟩,by omega⟩
 ·have h1':=of_decide_eq_false h1;obtain rfl:i=n:=by omega
  conv=>whnf
  refine⟨fun x y _ _=>rfl,?_⟩;conv=>whnf
  exact⟨rfl,Sub.refl _⟩
end Rf
end Go.Proofs.YtkmbnldginonbaaGreat
set_option maxHeartbeats 8000000
namespace Go.Proofs.YtkmbnldginonbaaGreat
open Go.RowKit
namespace Rf
theorem box_clos {l:List Cell} {i j:Nat} (h:l.all Cell.clos=true):(qk l i j).clos=true:=by
 unfold qk;rw[List.getD_eq_getElem?_getD];cases e:l[j]? with
 | none=>rfl
 | some c=>exact List.all_eq_true.1 h _ (List.mem_of_getElem? e)
theorem boxK {q k t sz u:Nat} {bl:List Blk} {ks:List (Option Nat)} {l:List Cell} (h:bl[k]? = some ⟨t,sz,1,u,0,qk l⟩) (hc:l.all Cell.clos=true):yZ q bl ks ⟨t,sz,1,qk l⟩ (some k) :=
 ⟨_,h,rfl,rfl,rfl,rfl,fun i j _ _=>qY rfl (box_clos (i:=i) (j:=j) hc)⟩
abbrev gi (s:Bool) (q:Nat) (d:Nat->Nat):Gx:=⟨36,2,1,qk [.bool s,dn q d]⟩
theorem cmp_top {x y:Nat} {a b:Nat->Nat} {n k:Nat} (ha:DOk n a) (hb:DOk n b) (hx:nv a n=x) (hy:nv b n=y) (hk:k<n) (hh:∀ i,k<i->i<n->a i=b i) (hne:a k≠b k):x<y↔a k<b k:=by
 have step:∀ j,k+1+j<=n->∃ H,nv a (k+1+j)=nv a (k+1)+H/\nv b (k+1+j)=nv b (k+1)+H:=by
  intro j;induction j with
  | zero=>exact fun _=>⟨0,rfl,rfl⟩
  | succ j ih =>
   intro h;obtain⟨H,h1,h2⟩:=ih (by omega);refine⟨H+BB^(k+1+j)*b (k+1+j),?_,?_⟩
   ·show nv a (k+1+j)+BB^(k+1+j)*a (k+1+j)=_;rw[h1,hh _ (by omega) (by omega),Nat.add_assoc]
   ·show nv b (k+1+j)+BB^(k+1+j)*b (k+1+j)=_;rw[h2,Nat.add_assoc]
 obtain⟨H,h1,h2⟩:=step (n-(k+1)) (by omega);rw[show k+1+(n-(k+1))=n by omega]at h1 h2;have ht:=top_lt (s:=a k) (t:=b k) (yK (ha.mono (show k<=n by omega))) (yK (hb.mono (show k<=n by omega)));have e1:nv a (k+1)=nv a k+BB^k*a k:=rfl;have e2:nv b (k+1)=nv b k+BB^k*b k:=rfl;rw[<- e1,<- e2]at ht;rw[<- hx,<- hy,h1,h2];constructor
 ·intro h;rcases Nat.lt_trichotomy (a k) (b k)with e | e | e
  ·exact e
  ·exact absurd e hne
  ·exact absurd (by omega) (ht.2.2 e)
 ·intro h;have:=ht.1 h;omega
theorem below_ok (x y:Nat) (hx:(qj x).length<=1048576):FnOK Tryz.prog false 148 [.c (dsC (qj x)),.c (dsC (qj y))] (.c (.bool (decide (x<y)))):=by
 have hdl:(qj x).length<(qj y).length->x<y:=fun h=>Nat.lt_of_lt_of_le (jY x) (Nat.le_trans (Nat.pow_le_pow_right (by decide) (by omega)) (digs_pow (k:=(qj y).length-1) (by omega)));have hdg:(qj y).length<(qj x).length->y<x:=fun h=>Nat.lt_of_lt_of_le (jY y) (Nat.le_trans (Nat.pow_le_pow_right (by decide) (by omega)) (digs_pow (k:=(qj x).length-1) (by omega)));have ct:=fun k (hl:(qj x).length=(qj y).length)=>cmp_top (x:=x) (y:=y) (k:=k) (jK (zP x) (qj x).length) (jK (zP y) (qj x).length) (xb x) (by rw[hl];exact xb y);have ce:(qj x).length=(qj y).length->(∀ i,0<=i->i<(qj x).length->ld (qj x) i=ld (qj y) i)->x=y:=fun hl h=>by
  rw[<- xb x,<- xb y,<- hl];exact WX fun i hi=>h i (Nat.zero_le _) hi
 show FnOK Tryz.prog false 148 [.c (dn (qj x).length (ld (qj x))),.c (dn (qj y).length (ld (qj y)))] (.c (.bool (decide (x<y))));have oa:=jK (zP x);have ob:=jK (zP y);generalize ld (qj x)=a at *;generalize ld (qj y)=b at *;generalize (qj x).length=n at *;generalize (qj y).length=m at *;refine qV (E:=E0) qw Tryz.func148 rfl mixed (by kernel_rfl) (by kernel_rfl) ?_;conv=>whnf
 refine qg (fun(h1:(!decide ((n:Int)=m))=true)=>?_) fun(h1:(!decide ((n:Int)=m))=false)=>?_
 ·have h1':n≠m:=fun e=>by subst e;simp at h1
  conv=>whnf
  refine⟨rfl,z7 (decide_eq_decide.2 ⟨fun h=>hdl (by omega),fun h=>?_⟩)⟩;have h:x<y:=h;rcases Nat.lt_or_ge m n with e | e
  ·exact absurd (hdg e) (by omega)
  ·omega
 have h1':n=m:=by
  have:(n:Int)=m:=by simpa using h1
  omega
 subst h1';have ct:=fun k=>ct k rfl;have ce:=ce rfl;clear hdl hdg;conv=>whnf
 refine⟨i64 (by omega) (by omega),?_⟩;conv=>whnf
 refine qK (fun k:Nat=>gst [(0,.c (dn n a)),(1,.c (dn n b)),(5,.c (.int .i64 ((k:Int)-1)))] []) (fun k=>k) (fun k=>k<=n/\∀ i,k<=i->i<n->a i=b i) n rfl ?_ ⟨Nat.le_refl _,fun i h1 h2=>by omega⟩ fun k ⟨hk,hh⟩=>?_
 ·exact Weak.gen [] rfl trivial ⟨rO rfl,rO rfl,⟨_,rfl,rfl⟩,trivial⟩
 have hct:=ct (k-1);clear ct;conv=>whnf
 refine qg (fun(h2:decide ((0:Int)<=(k:Int)-1)=true)=>?_) fun(h2:decide ((0:Int)<=(k:Int)-1)=false)=>?_
 ·have h2':=of_decide_eq_true h2;obtain⟨j,rfl⟩:∃ j,k=j+1:=⟨k-1,by omega⟩;rw[Nat.add_sub_cancel]at hct;have ej:(((j+1:Nat):Int)-1).toNat=j:=by omega
  conv=>whnf
  refine⟨by omega,by omega,?_⟩;conv=>whnf
  refine⟨by omega,by omega,?_⟩;conv=>whnf
  refine qg (fun(h3:(!decide ((a (((j+1:Nat):Int)-1).toNat:Int)=(b (((j+1:Nat):Int)-1).toNat:Int)))=true)=>?_) fun(h3:(!decide ((a (((j+1:Nat):Int)-1).toNat:Int)=(b (((j+1:Nat):Int)-1).toNat:Int)))=false)=>?_
  ·rw[ej]at h3;have h3':a j≠b j:=fun e=>by rw[e]at h3;simp at h3
   have hr:=hct (by omega) (fun i h1 h2=>hh i (by omega) h2) h3';conv=>whnf
   refine⟨by omega,by omega,?_⟩;conv=>whnf
   refine⟨by omega,by omega,?_⟩;conv=>whnf
   refine⟨rfl,z7 (decide_eq_decide.2 ?_)⟩;show(a (((j+1:Nat):Int)-1).toNat:Int)<(b (((j+1:Nat):Int)-1).toNat:Int)↔x<y;rw[ej,hr];omega
  ·rw[ej]at h3;have h3':a j=b j:=by
    have:(a j:Int)=b j:=by simpa using h3
    omega
   conv=>whnf
   refine⟨i64 (by omega) (by omega),?_⟩;conv=>whnf
   exact⟨j,by omega,Weak.gen [] rfl trivial ⟨rO rfl,rO rfl,⟨_,rfl,by omega⟩,trivial⟩,by omega,fun i h1 h2=>if e:i=j then by rw[e];exact h3' else hh i (by omega) h2⟩
 ·have h2':=of_decide_eq_false h2;obtain rfl:k=0:=by omega
  have hxy:=ce hh;conv=>whnf
  exact⟨rfl,z7 (by subst hxy;simp)⟩
theorem same_ok {n m:Nat} {a b:Nat->Nat} {s s' r:Bool} (hn:n<=1048576) (hr:r=true↔s=s'/\n=m/\∀ i,i<n->a i=b i):FnOK Tryz.prog false 51 [bn s n a,bn s' m b] (.c (.bool r)):=by
 refine qV (E:=E0) qw Tryz.func51 rfl mixed (by kernel_rfl) (by kernel_rfl) ?_;conv=>whnf
 refine qg (fun(h:gw false (!(s == s'))=true)=>?_) fun(h:gw false (!(s == s'))=false)=>?_
 ·have hs:s=s':=by have:=gwf h;simpa using this
  conv=>whnf
  refine qg (fun(h1:(!decide ((n:Int)=m))=true)=>?_) fun(h1:(!decide ((n:Int)=m))=false)=>?_
  ·have h1':r=false:=Bool.eq_false_iff.2 fun e=>by have:=(hr.1 e).2.1;subst this;simp at h1
   conv=>whnf
   exact⟨rfl,z7 h1'.symm⟩
  have h1':n=m:=by
   have:(n:Int)=m:=by simpa using h1
   omega
  subst h1';conv=>whnf
  refine qK (fun i:Nat=>gst [(2,.c (.p 0 0 2 0 0)),(3,.c (.p 1 0 2 0 0)),(5,.c (.int .i64 i))] [gi s n a,gi s' n b]) (fun i=>n-i) (fun i=>i<=n/\∀ j,j<i->a j=b j) 0 rfl ?_ ⟨Nat.zero_le _,fun j h=>by omega⟩ fun i ⟨hi,hh⟩=>?_
  ·exact Weak.gen [some 0,some 1] rfl ⟨boxK rfl rfl,boxK rfl rfl,trivial⟩ ⟨⟨_,rfl,rfl,rfl⟩,⟨_,rfl,rfl,rfl⟩,⟨_,rfl,rfl⟩,trivial⟩
  have hr':r=false∨a i=b i∨¬ i<n:=by
   by_cases c:i<n
   ·by_cases c':a i=b i
    ·exact .inr (.inl c')
    ·exact .inl (Bool.eq_false_iff.2 fun e=>c' ((hr.1 e).2.2 i c))
   ·exact .inr (.inr c)
  conv=>whnf
  refine qg (fun(h2:decide ((i:Int)<n)=true)=>?_) fun(h2:decide ((i:Int)<n)=false)=>?_
  ·have h2':=of_decide_eq_true h2;conv=>whnf
   refine⟨by omega,by omega,?_⟩;conv=>whnf
   refine⟨by omega,by omega,?_⟩;conv=>whnf
   refine qg (fun(h3:(!decide ((a i:Int)=(b i:Int)))=true)=>?_) fun(h3:(!decide ((a i:Int)=(b i:Int)))=false)=>?_
   ·have h3':r=false:=by
     refine Bool.eq_false_iff.2 fun e=>?_;have:=(hr.1 e).2.2 i (by omega);rw[this]at h3;simp at h3
    conv=>whnf
    exact⟨rfl,z7 h3'.symm⟩
   ·have h3':a i=b i:=by
     have:(a i:Int)=b i:=by simpa using h3
     omega
    conv=>whnf
    refine⟨i64 (by omega) (by omega),?_⟩;conv=>whnf
    exact⟨i+1,by omega,Weak.gen [some 0,some 1] rfl ⟨boxK rfl rfl,boxK rfl rfl,trivial⟩ ⟨⟨_,rfl,rfl,rfl⟩,⟨_,rfl,rfl,rfl⟩,⟨_,rfl,by omega⟩,trivial⟩,by omega,fun j hj=>if e:j=i then by rw[e];exact h3' else hh j (by omega)⟩
  ·have h2':=of_decide_eq_false h2;have h3':r=true:=hr.2 ⟨hs,rfl,fun j hj=>hh j (by omega)⟩;conv=>whnf
   exact⟨rfl,z7 h3'.symm⟩
 ·have hs:s≠s':=by
   have:=gwf' h;intro e;subst e;simp at this
  have h1':r=false:=Bool.eq_false_iff.2 fun e=>hs (hr.1 e).1;conv=>whnf
  exact⟨rfl,z7 h1'.symm⟩
end Rf
end Go.Proofs.YtkmbnldginonbaaGreat
/- The document's Bits, Add and Sub. -/
namespace Go.Proofs.YtkmbnldginonbaaGreat
open Go.RowKit
namespace Rf
def lb (x:Nat):Nat:=if x=0 then 0 else Nat.log2 x+1
theorem lb_half {x:Nat} (h:0<x):lb x=lb (x / 2)+1:=by
 unfold lb;rw[if_neg (by omega),Nat.log2_def];by_cases c:2<=x
 ·rw[if_pos c,if_neg (by omega)]
 ·rw[if_neg c,if_pos (by omega)]
theorem lb_lt (x:Nat):x<2^lb x:=by
 unfold lb;split
 ·subst x;decide
 ·exact Nat.lt_log2_self
theorem lb_ge {x:Nat} (h:x≠0):2^(lb x-1)<=x:=by
 unfold lb;rw[if_neg h,Nat.add_sub_cancel];exact Nat.log2_self_le h
theorem lb_unique {x m:Nat} (h1:2^m<=x) (h2:x<2^(m+1)):lb x=m+1:=by
 have h0:x≠0:=by have:=Nat.pow_pos (n:=m) (show 0<2 by decide);omega
 unfold lb;rw[if_neg h0];have:=(Nat.le_log2 h0 (k:=m)).2 h1;have:=(Nat.log2_lt h0 (k:=m+1)).2 h2;omega
theorem BB_two (k:Nat):BB^k=2^(32*k):=by rw[Nat.pow_mul]
theorem lb_top {d:Nat->Nat} {k:Nat} (hd:DOk (k+1) d) (h:d k≠0):lb (nv d (k+1))=32*k+lb (d k):=by
 obtain⟨m,hm⟩:∃ m,lb (d k)=m+1:=⟨lb (d k)-1,by unfold lb;rw[if_neg h];omega⟩;have h1:=lb_lt (d k);have h2:=lb_ge h;rw[hm]at h1 h2 ⊢
 have h3:=yK (hd.mono (Nat.le_succ k));have e:nv d (k+1)=nv d k+BB^k*d k:=rfl;refine lb_unique (m:=32*k+m) ?_ ?_
 ·rw[Nat.pow_add,<- BB_two,e];have:=Nat.mul_le_mul_left (BB^k) h2;rw[Nat.add_sub_cancel]at this;omega
 ·rw[Nat.add_assoc,Nat.pow_add,<- BB_two,e];have:=Nat.mul_le_mul_left (BB^k) (show d k+1<=2^(m+1)by omega);rw[Nat.mul_add]at this;omega
theorem lb_le {x k:Nat} (h:x<2^k):lb x<=k:=by
 by_cases h0:x=0
 ·subst h0;exact Nat.zero_le _
 ·unfold lb;rw[if_neg h0];have:=(Nat.log2_lt h0 (k:=k)).2 h;omega
theorem rbits_ok {n:Nat} {a:Nat->Nat} {s:Bool} (hd:DOk n a) (hn:n<=1048576):FnOK Tryz.prog false 185 [bn s n a] (.c (.int .i64 (lb (nv a n):Nat))):=by
 have ht:=gy hd hn;have h0:=@vV (nv a n);have hl:(qj (nv a n)).length<=n:=digs_lt (yK hd);have hb:∀ k,(qj (nv a n)).length=k+1->lb (nv a n)=32*k+lb (ld (qj (nv a n)) k):=fun k hk=>by
  have:=lb_top (jK (zP (nv a n)) (k+1)) (digs_top hk);rwa [<- hk,xb]at this
 have hlt:∀ k,ld (qj (nv a n)) k<4294967296:=fun k=>jK (zP _) (k+1) k (Nat.lt_succ_self k);have hs:∀ x:Nat,Int.tdiv (x:Int) 2=(x / 2:Nat):=fun x=>by rw[Int.tdiv_eq_ediv_of_nonneg (by omega)];omega
 generalize nv a n=x at *;refine qV (E:=E0) qw Tryz.func185 rfl mixed (by kernel_rfl) (by kernel_rfl) ?_;conv=>whnf
 refine⟨_,ht,?_⟩;conv=>whnf
 refine qg (fun(h1:decide (((qj x).length:Int)=0)=true)=>?_) fun(h1:decide (((qj x).length:Int)=0)=false)=>?_
 ·have h1:=of_decide_eq_true h1;have hx:x=0:=h0.1 (by omega);conv=>whnf
  exact⟨rfl,sub_int (by subst hx;rfl)⟩
 ·have h1:=of_decide_eq_false h1;obtain⟨k,hk⟩:∃ k,(qj x).length=k+1:=⟨(qj x).length-1,by omega⟩;have hbk:=hb k hk;have hlk:=hlt k;have hT:lb x<=33554432:=by have:=lb_le (k:=32) hlk;omega
  have ek:(((qj x).length:Int)-1).toNat=k:=by omega
  conv=>whnf
  refine⟨i64 (by omega) (by omega),?_⟩;conv=>whnf
  refine⟨i64 (by omega) (by omega),?_⟩;conv=>whnf
  refine⟨i64 (by omega) (by omega),?_⟩;conv=>whnf
  refine⟨by omega,by omega,?_⟩;conv=>whnf
  refine qK (fun((c,y):Nat × Nat)=>gst [(4,.c (.int .i64 c)),(5,.c (.int .u32 (y:Nat)))] []) (fun(_,y)=>y) (fun(c,y)=>c+lb y=lb x/\y<4294967296) (32*k,ld (qj x) k) rfl ?_ ⟨hbk.symm,hlk⟩ ?_
  ·exact Weak.gen [] rfl trivial ⟨⟨_,rfl,by omega⟩,⟨_,rfl,by rw[ek]⟩,trivial⟩
  rintro ⟨c,y⟩ ⟨h2,h3⟩;have h2:c+lb y=lb x:=h2;have h3:y<4294967296:=h3;have h5:=@lb_half y;have h6:=hs y;conv=>whnf
  refine qg (fun(h7:decide ((0:Int)<y)=true)=>?_) fun(h7:decide ((0:Int)<y)=false)=>?_
  ·have h7:=of_decide_eq_true h7;have h5:=h5 (by omega);conv=>whnf
   refine⟨i64 (by omega) (by omega),?_⟩;conv=>whnf
   refine⟨by omega,⟨by rw[h6];omega,by rw[h6];omega⟩,?_⟩;conv=>whnf
   exact⟨(c+1,y / 2),by show y / 2<y;omega,Weak.gen [] rfl trivial ⟨⟨_,rfl,by omega⟩,⟨_,rfl,h6⟩,trivial⟩,by show c+1+lb (y / 2)=lb x;omega,by show y / 2<4294967296;omega⟩
  ·have h7:=of_decide_eq_false h7;have hy:y=0:=by omega
   have:lb y=0:=by subst hy;rfl
   conv=>whnf
   exact⟨rfl,sub_int (by omega)⟩
theorem W8 {x q:Nat} (h:x<BB^q):nv (dg x) q=x:=by rw[nv_dg,Nat.mod_eq_of_lt h]
theorem sg_ok {x q:Nat} (s:Bool) (h:x<BB^q) (hq:q<=1048576):FnOK Tryz.prog false 141 [.c (.bool s),.c (dn q (dg x))] (.g (nz (sgn s x))):=by
 have:=v6 (s:=s) (dg_ok x q) hq;rwa [W8 h]at this
theorem sum_lt {x y n m:Nat} (hx:x<BB^n) (hy:y<BB^m):x+y<BB^(max n m+1):=by
 have h1:BB^n<=BB^max n m:=Nat.pow_le_pow_right (by decide) (by omega);have h2:BB^m<=BB^max n m:=Nat.pow_le_pow_right (by decide) (by omega);rw[Nat.pow_succ];generalize BB^max n m=P at *;show _<P*4294967296;omega
theorem plus_nz (x y:Nat) (hx:(qj x).length<=1048575) (hy:(qj y).length<=1048575):FnOK Tryz.prog false 147 [.c (dsC (qj x)),.c (dsC (qj y))] (.c (dn (max (qj x).length (qj y).length+1) (dg (x+y)))):=by
 have:=plus_ok (jK (zP x) (qj x).length) (jK (zP y) (qj y).length) (by omega) (by omega);rwa [xb,xb]at this
theorem minus_nz (x y:Nat) (hx:(qj x).length<=1048575) (hle:y<=x):FnOK Tryz.prog false 149 [.c (dsC (qj x)),.c (dsC (qj y))] (.c (dn (qj x).length (dg (x-y)))):=by
 have:=minus_ok (jK (zP x) (qj x).length) (jK (zP y) (qj y).length) (by omega) (gB hle) (by rw[xb,xb];exact hle);rwa [xb,xb]at this
theorem zadd_ok {a b:RawZ} (ha:wr a) (hb:wr b) (h1:qB a.val<=1048575) (h2:qB b.val<=1048575):FnOK Tryz.prog false 104 [.g (zr a),.g (zr b)] (.g (nz (a.val+b.val))):=by
 have hA:=UQ ha;have hB:=UQ hb;generalize a.val=x at *;generalize b.val=y at *;have hP:=plus_nz x.natAbs y.natAbs h1 h2;have hPs:=fun s=>sg_ok s (sum_lt (jY x.natAbs) (jY y.natAbs)) (by have h1:(qj x.natAbs).length<=1048575:=h1;have h2:(qj y.natAbs).length<=1048575:=h2;omega);have hL:=below_ok x.natAbs y.natAbs (Nat.le_succ_of_le h1);have hM:=fun h=>minus_nz y.natAbs x.natAbs h2 h;have hM':=fun h=>minus_nz x.natAbs y.natAbs h1 h;have hMs:=fun s=>sg_ok (x:=y.natAbs-x.natAbs) s (Nat.lt_of_le_of_lt (Nat.sub_le _ _) (jY y.natAbs)) (Nat.le_succ_of_le h2);have hMs':=fun s=>sg_ok (x:=x.natAbs-y.natAbs) s (Nat.lt_of_le_of_lt (Nat.sub_le _ _) (jY x.natAbs)) (Nat.le_succ_of_le h1);have e1:decide (x<0)=decide (y<0)->sgn (decide (x<0)) (x.natAbs+y.natAbs)=x+y:=fun h=>by
  unfold sgn;by_cases c:x<0 <;> by_cases c':y<0 <;> simp[c,c']at h ⊢ <;> omega
 have e2:decide (x<0)≠decide (y<0)->x.natAbs<y.natAbs->sgn (decide (y<0)) (y.natAbs-x.natAbs)=x+y:=fun h h'=>by
  unfold sgn;by_cases c:x<0 <;> by_cases c':y<0 <;> simp[c,c']at h ⊢ <;> omega
 have e3:decide (x<0)≠decide (y<0)->¬ x.natAbs<y.natAbs->sgn (decide (x<0)) (x.natAbs-y.natAbs)=x+y:=fun h h'=>by
  unfold sgn;by_cases c:x<0 <;> by_cases c':y<0 <;> simp[c,c']at h ⊢ <;> omega
 refine qV (E:=E0) qw Tryz.func104 rfl mixed (by kernel_rfl) (by kernel_rfl) ?_;conv=>whnf
 refine⟨_,hA,?_⟩;conv=>whnf
 refine⟨_,hB,?_⟩;conv=>whnf
 refine qg (fun(h:(decide (x<0) == decide (y<0))=true)=>?_) fun(h:(decide (x<0) == decide (y<0))=false)=>?_
 ·have e1:=e1 (by simpa using h);have hPs:=hPs (decide (x<0));rw[e1]at hPs;conv=>whnf
  refine⟨_,hP,?_⟩;conv=>whnf
  refine⟨_,hPs,?_⟩;conv=>whnf
  exact⟨rfl,Sub.refl _⟩
 ·have hne:decide (x<0)≠decide (y<0):=by simpa using h
  have e2:=e2 hne;have e3:=e3 hne;have hMs:=hMs (decide (y<0));have hMs':=hMs' (decide (x<0));conv=>whnf
  refine⟨_,hL,?_⟩;conv=>whnf
  refine qg (fun(h:decide (x.natAbs<y.natAbs)=true)=>?_) fun(h:decide (x.natAbs<y.natAbs)=false)=>?_
  ·have h:=of_decide_eq_true h;have hM:=hM (Nat.le_of_lt h);rw[e2 h]at hMs;conv=>whnf
   refine⟨_,hM,?_⟩;conv=>whnf
   refine⟨_,hMs,?_⟩;conv=>whnf
   exact⟨rfl,Sub.refl _⟩
  ·have h:=of_decide_eq_false h;have hM':=hM' (Nat.le_of_not_lt h);rw[e3 h]at hMs';conv=>whnf
   refine⟨_,hM',?_⟩;conv=>whnf
   refine⟨_,hMs',?_⟩;conv=>whnf
   exact⟨rfl,Sub.refl _⟩
theorem k6 {x:Int} (h:qB x<=1048576):wr (ofZ x):=⟨jV x,h⟩
theorem zsub_ok {a b:RawZ} (ha:wr a) (hb:wr b) (h1:qB a.val<=1048575) (h2:qB b.val<=1048575):FnOK Tryz.prog false 175 [.g (zr a),.g (zr b)] (.g (nz (a.val-b.val))):=by
 have hN:=zneg_ok hb;have hA:=zadd_ok (a:=a) (b:=ofZ (-b.val)) ha (k6 (by rw[kQ];omega)) h1 (by rw[qX,kQ];exact h2);rw[qX,<- Int.sub_eq_add_neg]at hA;refine qV (E:=E0) qw Tryz.func175 rfl mixed (by kernel_rfl) (by kernel_rfl) ?_;conv=>whnf
 refine⟨_,hN,?_⟩;conv=>whnf
 refine⟨_,hA,?_⟩;conv=>whnf
 exact⟨rfl,Sub.refl _⟩
end Rf
end Go.Proofs.YtkmbnldginonbaaGreat
/- The document's word, split and shifted. -/
namespace Go.Proofs.YtkmbnldginonbaaGreat
open Go.RowKit
namespace Rf
theorem word_step {a:Nat->Nat} {n k:Nat} (ha:DOk n a) (hk:k<n):nv a n / BB^k=nv a n / BB^(k+1)*BB+a k:=by
 rw[Nat.pow_succ,<- Nat.div_div_eq_div_mul];have h1:nv a n / BB^k%BB=a k:=dg_nv ha hk;have h2:=Nat.div_add_mod (nv a n / BB^k) BB;rw[h1,Nat.mul_comm]at h2;exact h2.symm
theorem shl32 {x:Nat} (h:x<4294967296):IntKind.u64.wrap ((x:Int)*2^32)=((x*4294967296:Nat):Int):=by
 rw[show((x:Int)*2^32)=((x*4294967296:Nat):Int)by omega];exact w64 (by omega) (by omega)
theorem word_ok {n:Nat} {a:Nat->Nat} (ha:DOk n a) (hn:n<=2):FnOK Tryz.prog false 164 [.c (dn n a)] (.c (.int .u64 (nv a n:Nat))):=by
 obtain⟨W,hW⟩:∃ W:Nat->Nat,W=fun k=>nv a n / BB^k:=⟨_,rfl⟩;have W0:W 0=nv a n:=by rw[hW];simp
 have Wn:W n=0:=by rw[hW];exact Nat.div_eq_of_lt (yK ha)
 have Ws:∀ k,k<n->W k=W (k+1)*4294967296+a k:=fun k hk=>by rw[hW];exact word_step ha hk
 have Wl:∀ k,0<k->k<=n->W k<4294967296:=fun k h0 hk=>by
  rw[hW];refine(Nat.div_lt_iff_lt_mul (ww k)).2 (Nat.lt_of_lt_of_le (yK ha) ?_);have:BB*BB^k=BB^(k+1):=by rw[Nat.pow_succ,Nat.mul_comm]
  show _<=BB*BB^k;rw[this];exact Nat.pow_le_pow_right (by decide) (by omega)
 have hlt:∀ k,k<n->a k<4294967296:=ha;clear hW;rw[<- W0];refine qV (E:=E0) qw Tryz.func164 rfl mixed (by kernel_rfl) (by kernel_rfl) ?_;conv=>whnf
 refine⟨i64 (by omega) (by omega),?_⟩;conv=>whnf
 refine qK (fun k:Nat=>gst [(0,.c (dn n a)),(3,.c (.int .u64 (W k:Nat))),(4,.c (.int .i64 ((k:Int)-1)))] []) (fun k=>k) (fun k=>k<=n) n rfl ?_ (Nat.le_refl _) fun k hk=>?_
 ·exact Weak.gen [] rfl trivial ⟨rO rfl,⟨_,rfl,by rw[Wn];rfl⟩,⟨_,rfl,rfl⟩,trivial⟩
 conv=>whnf
 refine qg (fun(h2:decide ((0:Int)<=(k:Int)-1)=true)=>?_) fun(h2:decide ((0:Int)<=(k:Int)-1)=false)=>?_
 ·have h2':=of_decide_eq_true h2;obtain⟨j,rfl⟩:∃ j,k=j+1:=⟨k-1,by omega⟩;have ej:(((j+1:Nat):Int)-1).toNat=j:=by omega
  have h3:=Wl (j+1) (by omega) hk;have h4:=Ws j (by omega);have h5:=hlt j (by omega);conv=>whnf
  refine⟨by omega,?_⟩;conv=>whnf
  refine⟨by omega,by omega,?_⟩;conv=>whnf
  refine⟨i64 (by omega) (by omega),?_⟩;conv=>whnf
  refine⟨j,by omega,Weak.gen [] rfl trivial ⟨rO rfl,⟨_,rfl,?_⟩,⟨_,rfl,by omega⟩,trivial⟩,by omega⟩;show IntKind.u64.wrap (IntKind.u64.wrap ((W (j+1):Int)*2^32)+IntKind.u64.wrap (a (((j+1:Nat):Int)-1).toNat:Nat))=(W j:Nat);rw[ej,shl32 h3,w64 (x:=(a j:Nat)) (by omega) (by omega),w64 (by omega) (by omega)];omega
 ·have h2':=of_decide_eq_false h2;obtain rfl:k=0:=by omega
  conv=>whnf
  exact⟨rfl,Sub.refl _⟩
theorem split_ok {x:Nat} (hx:x<18446744073709551616):FnOK Tryz.prog false 165 [.c (.int .u64 x)] (.c (dsC (qj x))):=by
 have hk:=gy (dg_ok x 2) (by omega);rw[W8 (show x<BB^2 from hx)]at hk;have hk:=arg_ok (args':=[.c (.row 1 2 fun i _=>if i=0 then .int .u32 (IntKind.u32.wrap (x:Nat))else .int .u32 (IntKind.u32.wrap (Int.fdiv (x:Nat) (2^32))))]) hk fun D w vs h=>by
  match vs,h with
  | [v1],⟨h1,_⟩ =>
   refine⟨zg rfl (fun i j hi hj=>?_) D w v1 h1,trivial⟩;match i,hi with
   | 0,_=>show Cell.int .u32 _ = .int .u32 _;rw[w32_lo]
   | 1,_=>show Cell.int .u32 _ = .int .u32 _;rw[w32_hi]
 refine qV (E:=E0) qw Tryz.func165 rfl mixed (by kernel_rfl) (by kernel_rfl) ?_;conv=>whnf
 refine⟨by omega,?_⟩;conv=>whnf
 refine⟨fun i j hi hj=>?_,?_⟩
 ·match i,j,hi,hj with
  | 0,0,_,_=>rfl
  | 1,0,_,_=>rfl
 conv=>whnf
 refine⟨_,arg_ok hk (fun D w vs h=>?_),?_⟩
 ·match vs,h with
  | [v1],⟨h1,_⟩ =>
   refine⟨zg rfl (fun i j hi hj=>?_) D w v1 h1,trivial⟩;match i,j,hi,hj with
   | 0,0,_,_=>rfl
   | 1,0,_,_=>rfl
 conv=>whnf
 exact⟨rfl,Sub.refl _⟩
end Rf
end Go.Proofs.YtkmbnldginonbaaGreat
/- The document's shifted and divided. -/
namespace Go.Proofs.YtkmbnldginonbaaGreat
open Go.RowKit
namespace Rf
theorem two_split (s:Nat):2^s=BB^(s / 32)*2^(s%32):=by
 rw[BB_two,<- Nat.pow_add];congr 1;omega
def sc (a:Nat->Nat) (r i:Nat):Nat:=2^r*nv a i / BB^i
theorem sc_lt {a:Nat->Nat} {r i:Nat} (h:DOk i a):sc a r i<2^r:=by
 unfold sc;refine(Nat.div_lt_iff_lt_mul (ww i)).2 ?_;exact Nat.mul_lt_mul_of_pos_left (yK h) (Nat.pow_pos (by decide))
theorem sc_part (a:Nat->Nat) (r i:Nat):2^r*nv a (i+1) / BB^i=a i*2^r+sc a r i:=by
 have e:2^r*nv a (i+1)=2^r*nv a i+BB^i*(a i*2^r):=by
  show 2^r*(nv a i+BB^i*a i)=_;rw[Nat.mul_add,Nat.mul_comm (a i),<- Nat.mul_assoc,<- Nat.mul_assoc,Nat.mul_comm (2^r) (BB^i)]
 rw[e,part_div,Nat.add_comm];rfl
theorem sc_next (a:Nat->Nat) (r i:Nat):sc a r (i+1)=(a i*2^r+sc a r i) / BB:=by
 rw[<- sc_part];unfold sc;rw[Nat.pow_succ,Nat.div_div_eq_div_mul]
theorem dg_shift (x w i:Nat):dg (BB^w*x) (w+i)=dg x i:=by
 unfold dg;rw[Nat.pow_add,<- Nat.div_div_eq_div_mul,Nat.mul_div_cancel_left _ (ww w)]
theorem dg_shift_low {x w i:Nat} (h:i<w):dg (BB^w*x) i=0:=by
 unfold dg;rw[show BB^w=BB^i*(BB*BB^(w-i-1))by rw[<- Nat.mul_assoc,<- Nat.pow_succ,<- Nat.pow_add];congr 1;omega,Nat.mul_assoc,Nat.mul_div_cancel_left _ (ww i),Nat.mul_assoc,Nat.mul_mod_right]
theorem sc_dig {a:Nat->Nat} {n r i:Nat} (ha:DOk n a) (hi:i<n):dg (2^r*nv a n) i=(a i*2^r+sc a r i)%BB:=by
 rw[nv_hi ha (show i+1<=n by omega),Nat.mul_add,<- Nat.mul_assoc,Nat.mul_comm (2^r) (BB^(i+1)),Nat.mul_assoc,dg_hi,sc_part]
theorem sc_top {a:Nat->Nat} {n r:Nat} (ha:DOk n a) (hr:r<32):dg (2^r*nv a n) n=sc a r n:=by
 unfold dg;exact Nat.mod_eq_of_lt (Nat.lt_trans (sc_lt ha) (Nat.lt_of_lt_of_le (Nat.pow_lt_pow_right (by decide) hr) (by decide)))
theorem pow32 {r:Nat} (hr:r<32):2^r<=2147483648:=Nat.pow_le_pow_right (n:=2) (by decide) (show r<=31 by omega)
theorem shl_eq {x r:Nat} {R:Int} (hx:x<4294967296) (hr:r<32) (hR:R=(r:Nat)):IntKind.u64.wrap (IntKind.u64.wrap (x:Nat)*2^min (Int.toNat R) 64)=((x*2^r:Nat):Int)/\x*2^r<=9223372034707292160:=by
 have h1:=Nat.mul_le_mul (show x<=4294967295 by omega) (pow32 hr);refine⟨?_,h1⟩;subst hR;rw[w64 (x:=(x:Nat)) (by omega) (by omega),show min (Int.toNat (r:Nat)) 64=r by omega,show((x:Nat):Int)*2^r=((x*2^r:Nat):Int)by rw[Int.natCast_mul,Int.natCast_pow];rfl];exact w64 (by omega) (by omega)
theorem shifted_ok {n s:Nat} {a:Nat->Nat} (ha:DOk n a) (hn:n<=524287) (hs:s<=16777216):FnOK Tryz.prog false 186 [.c (dn n a),.c (.int .i64 s)] (.c (dsC (qj (nv a n*2^s)))):=by
 obtain⟨w,hw⟩:∃ w,w=s / 32:=⟨_,rfl⟩;obtain⟨r,hr⟩:∃ r,r=s%32:=⟨_,rfl⟩;have hr32:r<32:=by omega
 have hp:=pow32 hr32;have hw2:w<=524288:=by omega
 have eX:nv a n*2^s=BB^w*(2^r*nv a n):=by rw[two_split,<- hw,<- hr,Nat.mul_comm,Nat.mul_assoc]
 rw[eX];have dl:∀ i,i<w->dg (BB^w*(2^r*nv a n)) i=0:=fun i h=>dg_shift_low h;have dm:∀ i,i<n->dg (BB^w*(2^r*nv a n)) (w+i)=(a i*2^r+sc a r i)%4294967296:=fun i h=>by rw[dg_shift,sc_dig ha h]
 have dt:dg (BB^w*(2^r*nv a n)) (w+n)=sc a r n:=by rw[dg_shift,sc_top ha hr32]
 have hlt:BB^w*(2^r*nv a n)<BB^(w+n+1):=by
  rw[Nat.add_assoc,Nat.pow_add];refine Nat.mul_lt_mul_of_pos_left ?_ (ww w);rw[Nat.pow_succ,Nat.mul_comm];refine Nat.lt_of_lt_of_le (Nat.mul_lt_mul_of_pos_right (yK ha) (Nat.pow_pos (by decide))) (Nat.mul_le_mul_left _ ?_);exact Nat.le_trans hp (by decide)
 have hT:=gy (dg_ok (BB^w*(2^r*nv a n)) (w+n+1)) (by omega);rw[W8 hlt]at hT;have scl:∀ i,i<=n->sc a r i<2^r:=fun i hi=>sc_lt (ha.mono hi);have scn:=sc_next a r;have sc0:sc a r 0=0:=by simp[sc,nv]
 have ao:∀ i,i<n->a i<4294967296:=ha;have q1:Int.tdiv (s:Int) 32=(w:Nat):=by rw[Int.tdiv_eq_ediv_of_nonneg (by omega)];omega
 have q2:Int.tmod (s:Int) 32=(r:Nat):=by rw[Int.tmod_eq_emod_of_nonneg (by omega)];omega
 have e0:IntKind.u64.wrap ((s:Int).tmod 32)=(r:Nat):=by rw[q2];exact w64 (by omega) (by omega)
 generalize sc a r=c at *;generalize BB^w*(2^r*nv a n)=X at *;refine qV (E:=E0) qw Tryz.func186 rfl mixed (by kernel_rfl) (by kernel_rfl) ?_;conv=>whnf
 refine⟨by omega,⟨by rw[q1];omega,by rw[q1];omega⟩,?_⟩;conv=>whnf
 refine⟨by rw[q1];omega,Int.le_refl _,by rw[q1];omega,by show(4:Int)*Int.tdiv (s:Int) 32<=281474976710656;rw[q1];omega,?_⟩;conv=>whnf
 refine qK (fun i:Nat=>gst [(0,.c (dn n a)),(1,.c (.int .i64 s)),(5,.c (.gs 0 0)),(6,.c (.int .u64 (c i:Nat))),(7,.c (.int .i64 i))] [gd (w+i) (dg X)]) (fun i=>n-i) (fun i=>i<=n) 0 rfl ?_ (Nat.zero_le _) fun i hi=>?_
 ·refine Weak.gen [some 0] rfl ⟨⟨_,rfl,rfl,rfl,?_,rfl,fun x y hx hy=>⟨_,?_,rfl⟩⟩,trivial⟩ ⟨rO rfl,⟨_,rfl,rfl⟩,⟨_,rfl,rfl,rfl⟩,⟨_,rfl,by rw[sc0];rfl⟩,⟨_,rfl,rfl⟩,trivial⟩
  ·show Int.toNat (Int.tdiv (s:Int) 32)=w+0;rw[q1];omega
  ·rw[dl x hx];obtain rfl:=Nat.lt_one_iff.1 hy;rfl
 have h3:=scl i hi;have h4:=scn i;have h5:=ao i;have h6:=dm i;conv=>whnf
 refine qg (fun(h1:decide ((i:Int)<n)=true)=>?_) fun(h1:decide ((i:Int)<n)=false)=>?_
 ·have h1':=of_decide_eq_true h1;have h5:=h5 (by omega);have h6:=h6 (by omega);obtain⟨eS,hS⟩:=shl_eq h5 hr32 e0;conv=>whnf
  refine⟨by omega,by omega,?_⟩;conv=>whnf
  refine⟨by omega,?_⟩;conv=>whnf
  refine⟨by rw[e0];omega,?_⟩;conv=>whnf
  refine⟨by show w+i+1<=16777216;omega,fun x y hx hy=>?_,?_⟩
  ·conv at hx=>rhs;whnf
   conv at hy=>rhs;whnf
   refine⟨kG hx hy ?_,fun h=>nomatch h⟩;conv=>lhs;whnf
  conv=>whnf
  refine⟨by omega,?_⟩;conv=>whnf
  refine⟨i64 (by omega) (by omega),?_⟩;conv=>whnf
  refine⟨i+1,by omega,Weak.gen [some 0] rfl ⟨⟨_,rfl,rfl,rfl,rfl,rfl,fun j k hj hk=>⟨_,appN hj (Nat.le_refl _) hk ?_,rfl⟩⟩,trivial⟩ ⟨rO rfl,⟨_,rfl,rfl⟩,⟨_,rfl,rfl,rfl⟩,⟨_,rfl,?_⟩,⟨_,rfl,by omega⟩,trivial⟩,by omega⟩
  ·show IntKind.u32.wrap (IntKind.u64.wrap (IntKind.u64.wrap (IntKind.u64.wrap (a i:Nat)*2^min (Int.toNat (IntKind.u64.wrap ((s:Int).tmod 32))) 64)+(c i:Int)))=(dg X (w+i):Nat);rw[eS,w64 (by omega) (by omega),<- Int.natCast_add,w32,h6]
  ·show Int.fdiv (IntKind.u64.wrap (IntKind.u64.wrap (IntKind.u64.wrap (a i:Nat)*2^min (Int.toNat (IntKind.u64.wrap ((s:Int).tmod 32))) 64)+(c i:Int))) (2^32)=(c (i+1):Nat);rw[eS,w64 (by omega) (by omega),<- Int.natCast_add,sh32,h4]
 ·have h1':=of_decide_eq_false h1;obtain rfl:i=n:=by omega
  conv=>whnf
  refine⟨by show w+i+1<=16777216;omega,fun x y hx hy=>?_,?_⟩
  ·conv at hx=>rhs;whnf
   conv at hy=>rhs;whnf
   refine⟨kG hx hy ?_,fun h=>nomatch h⟩;conv=>lhs;whnf
  conv=>whnf
  refine⟨fun x y _ _=>appF_clos (fun _ _=>rfl) (fun _ _=>rowF_clos rfl) x y,?_⟩;conv=>whnf
  refine⟨_,arg_ok hT (fun D w' vs h=>?_),?_⟩
  ·match vs,h with
   | [v1],⟨h1,_⟩ =>
    refine⟨zg rfl (fun x y hx hy=>appN hx (Nat.le_refl _) hy ?_) D w' v1 h1,trivial⟩;show IntKind.u32.wrap (c i:Nat)=(dg X (w+i):Nat);rw[w32,dt,Nat.mod_eq_of_lt (show c i<4294967296 by omega)]
  conv=>whnf
  exact⟨rfl,Sub.refl _⟩
end Rf
end Go.Proofs.YtkmbnldginonbaaGreat
set_option maxHeartbeats 16000000
namespace Go.Proofs.YtkmbnldginonbaaGreat
open Go.RowKit
namespace Rf
theorem bit_step {x T Q R:Nat} (h:x=2*T*Q+R) (hR:R<2*T):(R<T->x / T=2*Q/\x%T=R)/\(¬ R<T->x / T=2*Q+1/\x%T=R-T):=by
 have e:x=R+T*(2*Q):=by rw[h,Nat.mul_comm 2 T,Nat.mul_assoc];omega
 refine⟨fun c=>?_,fun c=>?_⟩
 ·rw[e,Nat.add_mul_div_left _ _ (by omega),Nat.add_mul_mod_self_left,Nat.div_eq_of_lt c,Nat.mod_eq_of_lt c];exact⟨by omega,rfl⟩
 ·have e2:x=(R-T)+T*(2*Q+1):=by rw[Nat.mul_add T (2*Q) 1];omega
  rw[e2,Nat.add_mul_div_left _ _ (by omega),Nat.add_mul_mod_self_left,Nat.div_eq_of_lt (by omega),Nat.mod_eq_of_lt (by omega)];exact⟨by omega,rfl⟩
theorem add_bit {V j m:Nat} (hV:V%2^(j+1)=0) (hm:V<BB^m) (hp:j / 32<m):dg V (j / 32)+2^(j%32)<BB/\∀ i,i<m->dg (V+2^j) i=upd (dg V) (j / 32) (dg V (j / 32)+2^(j%32)) i:=by
 obtain⟨p,ep⟩:∃ p,p=j / 32:=⟨_,rfl⟩;obtain⟨r,er⟩:∃ r,r=j%32:=⟨_,rfl⟩;have hr:r<32:=by omega
 have e2:2^j=BB^p*2^r:=by rw[two_split,<- ep,<- er]
 rw[<- ep,<- er];rw[<- ep]at hp;obtain⟨Z,hZ⟩:∃ Z,V=2^(j+1)*Z:=⟨V / 2^(j+1),by have:=Nat.mod_add_div V (2^(j+1));omega⟩;have e3:V=BB^p*(2^(r+1)*Z):=by rw[hZ,Nat.pow_succ,e2,Nat.pow_succ,Nat.mul_assoc,Nat.mul_assoc,Nat.mul_assoc]
 have hd:dg V p=2^(r+1)*(Z%2^(31-r)):=by
  unfold dg;rw[e3,Nat.mul_div_cancel_left _ (ww p),show BB=2^(r+1)*2^(31-r)by rw[<- Nat.pow_add,show r+1+(31-r)=32 by omega],Nat.mul_mod_mul_left]
 have hlt:dg V p+2^r<BB:=by
  rw[hd,show BB=2^(r+1)*2^(31-r)by rw[<- Nat.pow_add,show r+1+(31-r)=32 by omega]];have h1:=Nat.mod_lt Z (show 0<2^(31-r)from Nat.pow_pos (by decide));have h2:=Nat.mul_le_mul_left (2^(r+1)) (show Z%2^(31-r)+1<=2^(31-r)from h1);have h3:2^(r+1)=2^r*2:=Nat.pow_succ ..;have h4:0<2^r:=Nat.pow_pos (by decide);rw[Nat.mul_add]at h2;omega
 refine⟨hlt,fun i hi=>?_⟩;have hu:=upd_ok (j:=p) (dg_ok V m) hlt;have hn:=nv_upd (d:=dg V) (v:=dg V p+2^r) hp;rw[W8 hm,Nat.mul_add,<- e2]at hn;have:nv (upd (dg V) p (dg V p+2^r)) m=V+2^j:=by omega
 rw[<- this];exact dg_nv hu hi
theorem top_quot {x y s:Nat} (hy:0<y) (hs:lb x=s+lb y):x<2^(s+1)*y:=by
 have h1:=lb_lt x;have h2:=lb_ge (show y≠0 by omega);obtain⟨t,ht⟩:∃ t,lb y=t+1:=⟨lb y-1,by unfold lb;rw[if_neg (by omega)];omega⟩;rw[hs,ht,show s+(t+1)=s+1+t by omega,Nat.pow_add]at h1;rw[ht,Nat.add_sub_cancel]at h2;exact Nat.lt_of_lt_of_le h1 (Nat.mul_le_mul_left _ h2)
theorem low_quot {x y:Nat} (h:lb x<lb y):x<y:=by
 have h1:=lb_lt x;have h2:=lb_ge (show y≠0 by intro e;subst e;simp[lb]at h);exact Nat.lt_of_lt_of_le h1 (Nat.le_trans (Nat.pow_le_pow_right (by decide) (by omega)) h2)
theorem lb_digs {x n:Nat} (h:(qj x).length<=n):lb x<=32*n:=by
 refine lb_le (Nat.lt_of_lt_of_le (jY x) ?_);rw[BB_two];exact Nat.pow_le_pow_right (by decide) (by omega)
theorem subNil (f:Nat->Nat):Sub (.c .nil) (.c (dn 0 f)):=fun D w v h=>by
 have h:v = .slice none 0 0:=h;exact⟨none,0,h,Nat.le_refl _,fun h=>absurd h (Nat.lt_irrefl _)⟩
theorem updN {d e:Nat->Nat} {p j k:Nat} {v:Int} (hk:k<1) (h:(if j=p then v else(d j:Nat))=(e j:Nat)):zY (fun i _ => .int .u32 (d i:Nat)) p 0 [.int .u32 v] j k = .int .u32 (e j:Nat):=by
 obtain rfl:=Nat.lt_one_iff.1 hk;unfold zY;by_cases c:j=p
 ·rw[if_pos ⟨c,Nat.le_refl _,by simp⟩,<- h,if_pos c];rfl
 ·rw[if_neg (fun h=>c h.1),<- h,if_neg c]
theorem put_bit {d:Nat->Nat} {e p r a t:Nat} {w:Int} (ht:t=p) (hw:w=(r:Nat)) (hr:r<32) (h3:d p+2^r<BB) (h4:e=upd d p (d p+2^r) a):(if a=t then IntKind.u32.wrap ((d t:Int)+IntKind.u32.wrap (1*2^min (Int.toNat w) 32))else(d a:Nat))=(e:Nat):=by
 subst ht hw h4;have h6:2^r<BB:=by omega
 rw[Int.toNat_natCast,Nat.min_eq_left (by omega),Int.one_mul,show((2:Int)^r)=((2^r:Nat):Int)by rw[Int.natCast_pow];rfl,w32,Nat.mod_eq_of_lt h6,<- Int.natCast_add,w32,Nat.mod_eq_of_lt h3];unfold upd;split <;> rfl
def DivOK (x y:Nat):Prop:=∃ m,x / y<BB^m/\m<=524288/\FnOK Tryz.prog false 174 [.c (dsC (qj x)),.c (dsC (qj y))] (.t2 (.c (dn m (dg (x / y)))) (.c (dsC (qj (x%y)))))
theorem dig_dg (q:Nat):∀ i,i<(qj q).length->ld (qj q) i=dg q i:=fun i hi=>by
 have:=dg_nv (jK (zP q) (qj q).length) hi;rw[xb]at this;exact this.symm
theorem divided_two {x y:Nat} (hy:0<y) (hx:(qj x).length<=2) (hy2:(qj y).length<=2):DivOK x y:=by
 have wx:=word_ok (jK (zP x) (qj x).length) hx;have wy:=word_ok (jK (zP y) (qj y).length) hy2;rw[xb]at wx wy;have lx:x<18446744073709551616:=Nat.lt_of_lt_of_le (jY x) (show BB^(qj x).length<=BB^2 from Nat.pow_le_pow_right (by decide) hx);have h1:x / y<=x:=Nat.div_le_self _ _;have h2:x%y<=x:=Nat.mod_le _ _;have s1:=split_ok (x:=x / y) (by omega);have s2:=split_ok (x:=x%y) (by omega);have q1:Int.tdiv (x:Int) (y:Int)=(x / y:Nat):=by rw[Int.tdiv_eq_ediv_of_nonneg (by omega)];rfl
 have q2:Int.tmod (x:Int) (y:Int)=(x%y:Nat):=by rw[Int.tmod_eq_emod_of_nonneg (by omega)];rfl
 have hl:=gB h1;refine⟨(qj (x / y)).length,jY _,by omega,?_⟩;have hdg:=dig_dg (x / y);have ny:(y:Int)≠0:=by omega
 have hq:x / y<18446744073709551616:=Nat.lt_of_le_of_lt h1 lx;rw[<- q1]at s1;rw[<- q2]at s2;refine qV (E:=E0) qw Tryz.func174 rfl mixed (by kernel_rfl) (by kernel_rfl) ?_;conv=>whnf
 refine xG (xK.2 (show decide (((qj x).length:Int)<=2)=true from decide_eq_true (by omega))) ?_;conv=>whnf
 refine xG (show decide (((qj y).length:Int)<=2)=true from decide_eq_true (by omega)) ?_;conv=>whnf
 refine⟨_,wx,?_⟩;conv=>whnf
 refine⟨_,wy,?_⟩;conv=>whnf
 refine⟨ny,⟨by rw[q1];exact Int.natCast_nonneg _,by rw[q1];exact Int.ofNat_lt.2 hq⟩,?_⟩;conv=>whnf
 refine⟨_,s1,?_⟩;conv=>whnf
 refine⟨_,wx,?_⟩;conv=>whnf
 refine⟨_,wy,?_⟩;conv=>whnf
 refine⟨ny,?_⟩;conv=>whnf
 refine⟨_,s2,?_⟩;conv=>whnf
 exact⟨rfl,subT2 (subDn rfl hdg) (Sub.refl _)⟩
theorem divided_many {x y:Nat} (hy:0<y) (hx:(qj x).length<=524287) (hy2:(qj y).length<=524287) (h2:¬((qj x).length<=2/\(qj y).length<=2)):DivOK x y:=by
 have b1:=rbits_ok (s:=false) (jK (zP x) (qj x).length) (by omega);have b2:=rbits_ok (s:=false) (jK (zP y) (qj y).length) (by omega);rw[xb]at b1 b2;have l1:=lb_digs hx;have l2:=lb_digs hy2;by_cases c:lb x<lb y
 ·have hlt:=low_quot c;refine⟨0,by rw[Nat.div_eq_of_lt hlt];decide,by omega,?_⟩;rw[Nat.mod_eq_of_lt hlt];refine qV (E:=E0) qw Tryz.func174 rfl mixed (by kernel_rfl) (by kernel_rfl) ?_;by_cases d:(qj x).length<=2
  ·have d2:¬(qj y).length<=2:=fun h=>h2 ⟨d,h⟩;conv=>whnf
   refine xG (xK.2 (show decide (((qj x).length:Int)<=2)=true from decide_eq_true (by omega))) ?_;conv=>whnf
   refine jj (show decide (((qj y).length:Int)<=2)=false from decide_eq_false (by omega)) ?_;conv=>whnf
   refine⟨_,b1,?_⟩;conv=>whnf
   refine⟨_,b2,?_⟩;conv=>whnf
   refine⟨i64 (by omega) (by omega),?_⟩;conv=>whnf
   refine xG (show decide (((lb x:Nat):Int)-(lb y:Nat)<0)=true from decide_eq_true (by omega)) ?_;conv=>whnf
   exact⟨rfl,subT2 (subNil _) (Sub.refl _)⟩
  ·conv=>whnf
   refine jj (jv.2 (show decide (((qj x).length:Int)<=2)=!true from decide_eq_false (by omega))) ?_;conv=>whnf
   refine⟨_,b1,?_⟩;conv=>whnf
   refine⟨_,b2,?_⟩;conv=>whnf
   refine⟨i64 (by omega) (by omega),?_⟩;conv=>whnf
   refine xG (show decide (((lb x:Nat):Int)-(lb y:Nat)<0)=true from decide_eq_true (by omega)) ?_;conv=>whnf
   exact⟨rfl,subT2 (subNil _) (Sub.refl _)⟩
 have d:¬(qj x).length<=2:=fun d=>h2 ⟨d,by
  rcases Nat.lt_or_ge 2 (qj y).length with e | e
  ·refine absurd ?_ c;have h1:=lb_digs d;have h3:=lb_ge (show y≠0 by omega);have h4:=digs_pow (x:=y) (k:=(qj y).length-1) (by omega);have h5:BB^2<=y:=Nat.le_trans (Nat.pow_le_pow_right (by decide) (by omega)) h4;have h6:2^64<2^lb y:=Nat.lt_of_le_of_lt h5 (lb_lt y);have:=(Nat.pow_lt_pow_iff_right (a:=2) (by decide)).1 h6;omega
  ·exact e⟩
 obtain⟨s,hs⟩:∃ s,lb x=s+lb y:=⟨lb x-lb y,by omega⟩;have hxs:=top_quot hy hs;obtain⟨m,em⟩:∃ m,m=s / 32+1:=⟨_,rfl⟩;obtain⟨V,eV⟩:∃ V:Nat->Nat,V=fun k=>x / (2^k*y)*2^k:=⟨_,rfl⟩;obtain⟨R,eR⟩:∃ R:Nat->Nat,R=fun k=>x%(2^k*y):=⟨_,rfl⟩;have V0:V 0=x / y:=by rw[eV];simp
 have R0:R 0=x%y:=by rw[eR];simp
 have Vs:V (s+1)=0:=by rw[eV];show x / (2^(s+1)*y)*2^(s+1)=0;rw[Nat.div_eq_of_lt hxs,Nat.zero_mul]
 have Rs:R (s+1)=x:=by rw[eR];exact Nat.mod_eq_of_lt hxs
 have Rx:∀ k,R k<=x:=fun k=>by rw[eR];exact Nat.mod_le _ _
 have hb:=fun j=>bit_step (x:=x) (T:=2^j*y) (Q:=x / (2^(j+1)*y)) (R:=R (j+1)) (by
  have:=Nat.div_add_mod x (2^(j+1)*y);rw[eR];show _=2*(2^j*y)*(x / (2^(j+1)*y))+x%(2^(j+1)*y);rw[show 2*(2^j*y)=2^(j+1)*y by rw[Nat.pow_succ,Nat.mul_comm (2^j) 2,Nat.mul_assoc]];exact this.symm) (by
  rw[eR,show 2*(2^j*y)=2^(j+1)*y by rw[Nat.pow_succ,Nat.mul_comm (2^j) 2,Nat.mul_assoc]];exact Nat.mod_lt _ (Nat.mul_pos (Nat.pow_pos (by decide)) hy))
 have lo:∀ j,R (j+1)<2^j*y->V j=V (j+1)/\R j=R (j+1):=fun j h=>by
  obtain⟨k1,k2⟩:=(hb j).1 h;refine⟨?_,?_⟩
  ·rw[eV];show x / (2^j*y)*2^j=x / (2^(j+1)*y)*2^(j+1);rw[k1,Nat.pow_succ,Nat.mul_comm (2^j) 2,<- Nat.mul_assoc,Nat.mul_comm 2]
  ·rw[<- k2,eR]
 have hi:∀ j,¬ R (j+1)<2^j*y->V j=V (j+1)+2^j/\R j=R (j+1)-2^j*y:=fun j h=>by
  obtain⟨k1,k2⟩:=(hb j).2 h;refine⟨?_,?_⟩
  ·rw[eV];show x / (2^j*y)*2^j=x / (2^(j+1)*y)*2^(j+1)+2^j;rw[k1,Nat.pow_succ,Nat.mul_comm (2^j) 2,<- Nat.mul_assoc,Nat.mul_comm _ 2,Nat.add_mul,Nat.one_mul]
  ·rw[<- k2,eR]
 have Vm:∀ j,V (j+1)%2^(j+1)=0:=fun j=>by rw[eV];exact Nat.mul_mod_left _ _
 have Vl:∀ k,V k<BB^m:=fun k=>by
  have h1:V k*y<=x:=by
   rw[eV];show x / (2^k*y)*2^k*y<=x;rw[Nat.mul_assoc];exact Nat.div_mul_le_self _ _
  have h3:BB^m ≥ 2^(s+1):=by rw[BB_two];exact Nat.pow_le_pow_right (by decide) (by omega)
  have h4:V k*y<2^(s+1)*y:=Nat.lt_of_le_of_lt h1 hxs;exact Nat.lt_of_lt_of_le (Nat.lt_of_mul_lt_mul_right h4) h3
 clear eV eR hb;have sh:=fun j (hj:j<=s)=>shifted_ok (s:=j) (jK (zP y) (qj y).length) hy2 (by omega);rw[xb]at sh;have bl:=fun j=>below_ok (R (j+1)) (2^j*y) (Nat.le_trans (gB (Rx (j+1))) (by omega));have mi:=fun j (h:2^j*y<=R (j+1))=>minus_nz (R (j+1)) (2^j*y) (Nat.le_trans (gB (Rx (j+1))) (by omega)) h;have tr:=fun j=>gy (dg_ok (R (j+1)-2^j*y) (qj (R (j+1))).length) (Nat.le_trans (gB (Rx (j+1))) (by omega));have tr:∀ j,FnOK Tryz.prog false 150 [.c (dn (qj (R (j+1))).length (dg (R (j+1)-2^j*y)))] (.c (dsC (qj (R (j+1)-2^j*y)))):=fun j=>by
  have:=tr j;rwa [W8 (Nat.lt_of_le_of_lt (Nat.sub_le _ _) (jY _))]at this
 have ab:=fun j (h:j / 32<m)=>add_bit (Vm j) (Vl (j+1)) h;refine⟨m,by rw[<- V0];exact Vl 0,by omega,?_⟩;rw[<- V0,<- R0];have q1:Int.tdiv (s:Int) 32=(s / 32:Nat):=by rw[Int.tdiv_eq_ediv_of_nonneg (by omega)];omega
 refine qV (E:=E0) qw Tryz.func174 rfl mixed (by kernel_rfl) (by kernel_rfl) ?_;conv=>whnf
 refine jj (jv.2 (show decide (((qj x).length:Int)<=2)=!true from decide_eq_false (by omega))) ?_;conv=>whnf
 refine⟨_,b1,?_⟩;conv=>whnf
 refine⟨_,b2,?_⟩;conv=>whnf
 refine⟨i64 (by omega) (by omega),?_⟩;have es:((lb x:Nat):Int)-(lb y:Nat)=(s:Nat):=by omega
 rw[es];conv=>whnf
 refine⟨by omega,⟨by rw[q1];omega,by rw[q1];omega⟩,?_⟩;conv=>whnf
 refine⟨⟨by rw[q1];omega,by rw[q1];omega⟩,?_⟩;conv=>whnf
 refine⟨by rw[q1];omega,Int.le_refl _,by rw[q1];omega,by show(4:Int)*(Int.tdiv (s:Int) 32+1)<=281474976710656;rw[q1];omega,?_⟩;conv=>whnf
 refine qK (fun k:Nat=>gst [(1,.c (dsC (qj y))),(6,.c (dsC (qj (R k)))),(8,.c (.gs 0 0)),(9,.c (.int .i64 ((k:Int)-1)))] [gd m (dg (V k))]) (fun k=>k) (fun k=>k<=s+1) (s+1) rfl ?_ (Nat.le_refl _) fun k hk=>?_
 ·refine Weak.gen [some 0] rfl ⟨⟨_,rfl,rfl,rfl,?_,rfl,fun a b ha hb=>⟨_,?_,rfl⟩⟩,trivial⟩ ⟨rO rfl,.inl ⟨_,_,rfl,congrArg (fun z=>(qj z).length) Rs.symm,fun i _ _ _=>by show Cell.int .u32 (ld (qj x) i:Nat) = .int .u32 (ld (qj (R (s+1))) i:Nat);rw[Rs]⟩,⟨_,rfl,rfl,rfl⟩,⟨_,rfl,by omega⟩,trivial⟩
  ·show Int.toNat (Int.tdiv (s:Int) 32+1)=m;rw[q1];omega
  ·obtain rfl:=Nat.lt_one_iff.1 hb;show Cell.int .u32 0 = .int .u32 (dg (V (s+1)) a:Nat);rw[Vs];unfold dg;simp
 have eJ:∀ j:Nat,(((j+1:Nat):Int)-1)=(j:Nat):=fun j=>by omega
 have sh:=sh (k-1);have bl:=bl (k-1);have mi:=mi (k-1);have tr:=tr (k-1);have ab:=ab (k-1);have lo:=lo (k-1);have hi:=hi (k-1);conv=>whnf
 refine qg (fun(h3:decide ((0:Int)<=(k:Int)-1)=true)=>?_) fun(h3:decide ((0:Int)<=(k:Int)-1)=false)=>?_
 ·have h3':=of_decide_eq_true h3;obtain⟨j,rfl⟩:∃ j,k=j+1:=⟨k-1,by omega⟩;have eJ:=eJ j;rw[Nat.add_sub_cancel]at sh bl mi tr ab lo hi;have sh:=sh (by omega);rw[Nat.mul_comm]at sh;have ab:=ab (by omega);rw[<- eJ]at sh;have d1:Int.tdiv (((j+1:Nat):Int)-1) 32=(j / 32:Nat):=by rw[eJ,Int.tdiv_eq_ediv_of_nonneg (by omega)];omega
  have d2:Int.tmod (((j+1:Nat):Int)-1) 32=(j%32:Nat):=by rw[eJ,Int.tmod_eq_emod_of_nonneg (by omega)];omega
  have d3:Int.toNat (Int.tdiv (((j+1:Nat):Int)-1) 32)=j / 32:=by rw[d1];omega
  have e0:IntKind.u64.wrap (Int.tmod (((j+1:Nat):Int)-1) 32)=(j%32:Nat):=by rw[d2];exact w64 (by omega) (by omega)
  conv=>whnf
  refine⟨_,sh,?_⟩;conv=>whnf
  refine⟨_,bl,?_⟩;conv=>whnf
  refine qg (fun(h4:(!decide (R (j+1)<2^j*y))=true)=>?_) fun(h4:(!decide (R (j+1)<2^j*y))=false)=>?_
  ·have h4':¬ R (j+1)<2^j*y:=by simpa using h4
   obtain⟨g1,g2⟩:=hi h4';obtain⟨g3,g4⟩:=ab;have mi:=mi (by omega);conv=>whnf
   refine⟨_,mi,?_⟩;conv=>whnf
   refine⟨_,tr,?_⟩;conv=>whnf
   refine⟨by omega,⟨by rw[d1];omega,by rw[d1];omega⟩,?_⟩;conv=>whnf
   refine⟨by omega,⟨by rw[d1];omega,by rw[d1];omega⟩,?_⟩;conv=>whnf
   refine⟨by rw[d1];omega,by show Int.tdiv (((j+1:Nat):Int)-1) 32<(m:Nat);rw[d1];omega,?_⟩;conv=>whnf
   refine⟨by omega,?_⟩;conv=>whnf
   refine⟨by rw[e0];omega,?_⟩;conv=>whnf
   refine⟨by rw[d1];omega,by show Int.tdiv (((j+1:Nat):Int)-1) 32<(m:Nat);rw[d1];omega,?_⟩;conv=>whnf
   refine⟨i64 (by omega) (by omega),?_⟩;conv=>whnf
   refine⟨j,by omega,?_,by omega⟩;refine Weak.gen [some 0] rfl ⟨⟨_,rfl,rfl,rfl,rfl,rfl,fun a b ha hb=>⟨_,updN hb ?_,rfl⟩⟩,trivial⟩ ⟨rO rfl,.inl ⟨_,_,rfl,congrArg (fun z=>(qj z).length) g2.symm,fun i _ _ _=>by show Cell.int .u32 (ld (qj (R (j+1)-2^j*y)) i:Nat) = .int .u32 (ld (qj (R j)) i:Nat);rw[g2]⟩,⟨_,rfl,rfl,rfl⟩,⟨_,rfl,by omega⟩,trivial⟩;show(if a=Int.toNat (Int.tdiv (((j+1:Nat):Int)-1) 32)then IntKind.u32.wrap ((dg (V (j+1)) (Int.toNat (Int.tdiv (((j+1:Nat):Int)-1) 32)):Int)+IntKind.u32.wrap (1*2^min (Int.toNat (IntKind.u64.wrap (Int.tmod (((j+1:Nat):Int)-1) 32))) 32))else(dg (V (j+1)) a:Nat))=(dg (V j) a:Nat);exact put_bit d3 e0 (by omega) g3 (by rw[g1];exact g4 a ha)
  ·have h4':R (j+1)<2^j*y:=by simpa using h4
   obtain⟨g1,g2⟩:=lo h4';conv=>whnf
   refine⟨i64 (by omega) (by omega),?_⟩;conv=>whnf
   refine⟨j,by omega,?_,by omega⟩;exact Weak.gen [some 0] rfl ⟨⟨_,rfl,rfl,rfl,rfl,rfl,fun a b ha hb=>⟨_,rfl,by rw[g1]⟩⟩,trivial⟩ ⟨rO rfl,.inl ⟨_,_,rfl,congrArg (fun z=>(qj z).length) g2.symm,fun i _ _ _=>by show Cell.int .u32 (ld (qj (R (j+1))) i:Nat) = .int .u32 (ld (qj (R j)) i:Nat);rw[g2]⟩,⟨_,rfl,rfl,rfl⟩,⟨_,rfl,by omega⟩,trivial⟩
 ·have h3':=of_decide_eq_false h3;obtain rfl:k=0:=by omega
  conv=>whnf
  refine⟨fun _ _ _ _=>rfl,?_⟩;conv=>whnf
  exact⟨rfl,Sub.refl _⟩
end Rf
end Go.Proofs.YtkmbnldginonbaaGreat
/- The document's quotient and remainder, and the greatest common divisor. -/
namespace Go.Proofs.YtkmbnldginonbaaGreat
open Go.RowKit
namespace Rf
theorem sgn_div {p q:Bool} {a b:Nat} (hb:0<b) (h:p=false∨a%b=0):sgn p a / sgn q b=sgn (!(p == q)) (a / b)/\sgn p a%sgn q b=(a%b:Nat):=by
 have hd:=Nat.div_add_mod a b;have hm:=Nat.mod_lt a hb;have key:∀ x y r k:Int,y≠0->0<=r->r<y.natAbs->r+y*k=x->x / y=k/\x%y=r:=by
  intro x y r k hy h0 h1 h2;subst h2;refine⟨?_,?_⟩
  ·rw[Int.add_mul_ediv_left _ _ hy];have:r / y=0:=by
    rcases Int.natAbs_eq y with e | e
    ·rw[e];exact Int.ediv_eq_zero_of_lt h0 (by omega)
    ·rw[e,Int.ediv_neg,Int.ediv_eq_zero_of_lt h0 (by omega)];rfl
   omega
  ·rw[Int.add_mul_emod_self_left];rcases Int.natAbs_eq y with e | e
   ·rw[e];exact Int.emod_eq_of_lt h0 (by omega)
   ·rw[e,Int.emod_neg];exact Int.emod_eq_of_lt h0 (by omega)
 generalize a / b=k at *;generalize a%b=m at *;have hi:(b:Int)*k+m=a:=by rw[<- Int.natCast_mul,<- Int.natCast_add,hd]
 generalize ht:(b:Int)*k=t at *;apply key
 ·cases q <;> simp[sgn] <;> omega
 ·omega
 ·cases q <;> simp[sgn] <;> omega
 ·rcases h with rfl | h
  ·cases q <;> simp[sgn,Int.mul_neg,Int.neg_mul,ht] <;> omega
  ·rw[h]at hi ⊢
   cases p <;> cases q <;> simp[sgn,Int.mul_neg,Int.neg_mul,ht]at hi ⊢ <;> omega
theorem sgn_div_up {q:Bool} {a b:Nat} (hb:0<b) (h:0<a%b):sgn true a / sgn q b=sgn (!(true == q)) (a / b+1)/\sgn true a%sgn q b=(b-a%b:Nat):=by
 have hd:=Nat.div_add_mod a b;have hm:=Nat.mod_lt a hb;have e:∃ c:Nat,c+a=b*(a / b+1)/\c=b-a%b/\c<b:=⟨b-a%b,by rw[Nat.mul_add];omega,rfl,by omega⟩;obtain⟨c,hc,hc2,hc3⟩:=e;rw[<- hc2];generalize a / b+1=k at *;have hi:(c:Int)+a=(b:Int)*k:=by rw[<- Int.natCast_mul,<- Int.natCast_add,hc]
 generalize ht:(b:Int)*k=t at *;have hy:sgn q b≠0:=by cases q <;> simp[sgn] <;> omega
 have hx:sgn true a=c+sgn q b*sgn (!(true == q)) k:=by
  cases q <;> simp[sgn,Int.mul_neg,Int.neg_mul,ht] <;> omega
 have ha:(c:Int)<(sgn q b).natAbs:=by cases q <;> simp[sgn] <;> omega
 rw[hx];refine⟨?_,?_⟩
 ·rw[Int.add_mul_ediv_left _ _ hy];have:(c:Int) / sgn q b=0:=by
   rcases Int.natAbs_eq (sgn q b)with e | e
   ·rw[e];exact Int.ediv_eq_zero_of_lt (by omega) (by omega)
   ·rw[e,Int.ediv_neg,Int.ediv_eq_zero_of_lt (by omega) (by omega)];rfl
  omega
 ·rw[Int.add_mul_emod_self_left];rcases Int.natAbs_eq (sgn q b)with e | e
  ·rw[e];exact Int.emod_eq_of_lt (by omega) (by omega)
  ·rw[e,Int.emod_neg];exact Int.emod_eq_of_lt (by omega) (by omega)
theorem divided_ok {x y:Nat} (hy:0<y) (hx:(qj x).length<=524287) (hy2:(qj y).length<=524287):DivOK x y:=by
 by_cases c:(qj x).length<=2/\(qj y).length<=2
 ·exact divided_two hy c.1 c.2
 ·exact divided_many hy hx hy2 c
theorem sgd_ok {n:Nat} (s:Bool) (h:(qj n).length<=1048576):FnOK Tryz.prog false 141 [.c (.bool s),.c (dsC (qj n))] (.g (nz (sgn s n))):=by
 have:=v6 (s:=s) (jK (zP n) (qj n).length) h;rwa [xb]at this
theorem sgn_self (x:Int):sgn (decide (x<0)) x.natAbs=x:=by
 unfold sgn;by_cases c:x<0
 ·rw[if_pos (by simpa using c)];omega
 ·rw[if_neg (by simpa using c)];omega
end Rf
end Go.Proofs.YtkmbnldginonbaaGreat
/- The document's division of integers. -/
namespace Go.Proofs.YtkmbnldginonbaaGreat
open Go.RowKit
namespace Rf
theorem pow_step (m:Nat):BB^m+1<=BB^(max m 1+1):=by
 have h1:=Nat.pow_le_pow_right (n:=BB) (by decide) (show m<=max m 1 by omega);have h2:=ww (max m 1);rw[Nat.pow_succ];have h3:BB^max m 1*2<=BB^max m 1*BB:=Nat.mul_le_mul_left _ (by decide);omega
theorem euclid_ok {a b:RawZ} (ha:wr a) (hb:wr b) (h1:qB a.val<=524286) (h2:qB b.val<=524286) (h0:b.val≠0):FnOK Tryz.prog false 166 [.g (zr a),.g (zr b)] (.t2 (.g (nz (a.val / b.val))) (.g (nz (a.val%b.val)))):=by
 have hA:=UQ ha;have hB:=UQ hb;generalize a.val=x at *;generalize b.val=y at *;have h1:(qj x.natAbs).length<=524286:=h1;have h2:(qj y.natAbs).length<=524286:=h2;obtain⟨m,m1,m2,hD⟩:=divided_ok (x:=x.natAbs) (y:=y.natAbs) (by omega) (by omega) (by omega);have hlr:(qj (x.natAbs%y.natAbs)).length<=524286:=Nat.le_trans (gB (Nat.le_of_lt (Nat.mod_lt _ (by omega)))) h2;have hR:=sgd_ok (n:=x.natAbs%y.natAbs) false (by omega);obtain⟨T,hT⟩:∃ T:Int,T=(x.natAbs%y.natAbs:Nat):=⟨_,rfl⟩;rw[show sgn false (x.natAbs%y.natAbs)=T from hT.symm]at hR;have hTn:T.natAbs=x.natAbs%y.natAbs:=by omega
 have hT0:0<(qj T.natAbs).length↔0<x.natAbs%y.natAbs:=by
  rw[hTn];have:=@vV (x.natAbs%y.natAbs);omega
 have z1:qB T<=1048575:=by show(qj T.natAbs).length<=_;rw[hTn];omega
 have hY:=zabs_ok (a:=ofZ y) (k6 (show(qj y.natAbs).length<=_ by omega));rw[qX]at hY;obtain⟨U,hU⟩:∃ U:Int,U=(y.natAbs:Nat):=⟨_,rfl⟩;rw[<- hU]at hY;have z2:qB U<=1048575:=by show(qj U.natAbs).length<=_;rw[show U.natAbs=y.natAbs by omega];omega
 have hS:=zsub_ok (a:=ofZ U) (b:=ofZ T) (k6 (by omega)) (k6 (by omega)) (by rw[qX];omega) (by rw[qX];omega);rw[qX,qX]at hS;have hdm:=dg_ok (x.natAbs / y.natAbs) m;have e1:x=sgn (decide (x<0)) x.natAbs:=(sgn_self x).symm;have e2:y=sgn (decide (y<0)) y.natAbs:=(sgn_self y).symm;have kd:decide (x<0)=false∨x.natAbs%y.natAbs=0->sgn (!(decide (x<0) == decide (y<0))) (x.natAbs / y.natAbs)=x / y/\T=x%y:=fun h=>by
  have:=sgn_div (p:=decide (x<0)) (q:=decide (y<0)) (a:=x.natAbs) (b:=y.natAbs) (by omega) h;rw[<- e1,<- e2]at this;exact⟨this.1.symm,by rw[hT,this.2]⟩
 have ku:x<0->0<x.natAbs%y.natAbs->sgn (!(decide (y<0))) (x.natAbs / y.natAbs+1)=x / y/\U-T=x%y:=fun h h'=>by
  have:=sgn_div_up (q:=decide (y<0)) (a:=x.natAbs) (b:=y.natAbs) (by omega) h';rw[show sgn true x.natAbs=x by rw[<- show decide (x<0)=true from decide_eq_true h];exact e1.symm,<- e2]at this;refine⟨by rw[this.1];simp,?_⟩;rw[this.2];have:=Nat.mod_lt x.natAbs (show 0<y.natAbs by omega);omega
 have hP:=plus_ok (a:=dg (x.natAbs / y.natAbs)) (b:=fun i=>if i=0 then 1 else 0) hdm (fun i hi=>by show(if i=0 then 1 else 0)<BB;split <;> decide) (n:=m) (m:=1) (by omega) (by omega);rw[W8 m1,show nv (fun i=>if i=0 then 1 else 0) 1=1 from rfl]at hP;have hP:=arg_ok (args':=[.c (dn m (dg (x.natAbs / y.natAbs))),.c (.row 1 1 (xJ 1 [.int .u32 1]))]) hP fun D w vs h=>by
  match vs,h with
  | [v0,v1],⟨h0,h1,_⟩ =>
   refine⟨h0,zg rfl (fun i j hi hj=>?_) D w v1 h1,trivial⟩;match i,j,hi,hj with
   | 0,0,_,_=>rfl
 have hPs:=sg_ok (x:=x.natAbs / y.natAbs+1) (q:=max m 1+1) (!(decide (y<0))) (Nat.lt_of_lt_of_le (show x.natAbs / y.natAbs+1<BB^m+1 from Nat.succ_lt_succ m1) (pow_step m)) (by omega);have hQ:=fun s=>sg_ok (x:=x.natAbs / y.natAbs) s m1 (by omega);have hU1:x<0->0<(qj T.natAbs).length->FnOK Tryz.prog false 141 [.c (.bool (!(decide (y<0)))),.c (dn (max m 1+1) (dg (x.natAbs / y.natAbs+1)))] (.g (nz (x / y))):=fun a b=>by
  have:=hPs;rw[(ku a (hT0.1 b)).1]at this;exact this
 have hU2:x<0->0<(qj T.natAbs).length->FnOK Tryz.prog false 175 [.g (nz U),.g (nz T)] (.g (nz (x%y))):=fun a b=>by
  have:=hS;rw[(ku a (hT0.1 b)).2]at this;exact this
 have hE:¬ x<0∨¬ 0<(qj T.natAbs).length->FnOK Tryz.prog false 141 [.c (.bool (!(decide (x<0) == decide (y<0)))),.c (dn m (dg (x.natAbs / y.natAbs)))] (.g (nz (x / y)))/\T=x%y:=fun a=>by
  have h:=kd (a.imp decide_eq_false fun b=>by
   have:=hT0;omega)
  have g:=hQ (!(decide (x<0) == decide (y<0)));rw[h.1]at g;exact⟨g,h.2⟩
 have hE1:=fun a=>(hE a).1;have hE2:¬ x<0∨¬ 0<(qj T.natAbs).length->Sub (.t2 (.g (nz (x / y))) (.g (nz T))) (.t2 (.g (nz (x / y))) (.g (nz (x%y)))):=fun a=>by
  rw[(hE a).2];exact Sub.refl _
 clear hPs hS hE hQ kd ku;refine qV (E:=E0) qw Tryz.func166 rfl mixed (by kernel_rfl) (by kernel_rfl) ?_;conv=>whnf
 refine⟨_,hA,?_⟩;conv=>whnf
 refine⟨_,hB,?_⟩;conv=>whnf
 refine⟨_,hD,?_⟩;conv=>whnf
 refine⟨_,hR,?_⟩;conv=>whnf
 refine qg (fun(h:gw true (decide (x<0))=true)=>?_) fun(h:gw true (decide (x<0))=false)=>?_
 ·have h:x<0:=of_decide_eq_true (xK.1 h);conv=>whnf
  refine qg (fun(h':decide ((0:Int)<((qj T.natAbs).length:Nat))=true)=>?_) fun(h':decide ((0:Int)<((qj T.natAbs).length:Nat))=false)=>?_
  ·have h':0<(qj T.natAbs).length:=by have:=of_decide_eq_true h';omega
   have g1:=hU1 h h';have g2:=hU2 h h';conv=>whnf
   refine .inr ⟨rfl,?_⟩;conv=>whnf
   refine⟨_,hP,?_⟩;conv=>whnf
   refine⟨_,g1,?_⟩;conv=>whnf
   refine⟨_,hY,?_⟩;conv=>whnf
   refine⟨_,g2,?_⟩;conv=>whnf
   exact⟨rfl,Sub.refl _⟩
  ·have h':¬ 0<(qj T.natAbs).length:=by have:=of_decide_eq_false h';omega
   have g1:=hE1 (.inr h');have g2:=hE2 (.inr h');conv=>whnf
   refine⟨_,g1,?_⟩;conv=>whnf
   exact⟨rfl,g2⟩
 ·have h:¬ x<0:=of_decide_eq_false (jv.1 h);have g1:=hE1 (.inl h);have g2:=hE2 (.inl h);conv=>whnf
  refine⟨_,g1,?_⟩;conv=>whnf
  exact⟨rfl,g2⟩
end Rf
end Go.Proofs.YtkmbnldginonbaaGreat
/- The document's greatest common divisor. -/
namespace Go.Proofs.YtkmbnldginonbaaGreat
open Go.RowKit
namespace Rf
theorem boxU {q k t sz u:Nat} {bl:List Blk} {ks:List (Option Nat)} {l:List Cell} {f:Nat->Nat->Cell} (h:bl[k]? = some ⟨t,sz,1,u,0,zY f 0 0 l⟩) (hs:sz=l.length) (hc:l.all Cell.clos=true):yZ q bl ks ⟨t,sz,1,qk l⟩ (some k) :=
 ⟨_,h,rfl,rfl,rfl,rfl,fun i j hi hj=>qY (by
  have hi:i<1:=hi;have hj:j<sz:=hj;show zY f 0 0 l i j=qk l i j;unfold zY qk;rw[if_pos ⟨by omega,by omega,by omega⟩,Nat.sub_zero]) (box_clos (i:=i) (j:=j) hc)⟩
def zb:Gx:=⟨36,2,1,qk [.bool false,.nil]⟩
def zbx (n:Nat):Gx:=⟨36,2,1,qk (nz (n:Int))⟩
theorem gcd_small {a b:RawZ} (ha:wr a) (hb:wr b) (h1:qB a.val<=2) (h2:qB b.val<=2):FnOK Tryz.prog false 143 [.g (zr a),.g (zr b)] (.g (nz (Nat.gcd a.val.natAbs b.val.natAbs:Nat))):=by
 have hA:=zabs_ok ha;have hB:=zabs_ok hb;have h1:(qj a.val.natAbs).length<=2:=h1;have h2:(qj b.val.natAbs).length<=2:=h2;generalize a.val.natAbs=x at *;generalize b.val.natAbs=y at *;have wx:=word_ok (jK (zP x) (qj x).length) h1;have wy:=word_ok (jK (zP y) (qj y).length) h2;rw[xb]at wx wy;have lx:x<18446744073709551616:=Nat.lt_of_lt_of_le (jY x) (show BB^(qj x).length<=BB^2 from Nat.pow_le_pow_right (by decide) h1);have ly:y<18446744073709551616:=Nat.lt_of_lt_of_le (jY y) (show BB^(qj y).length<=BB^2 from Nat.pow_le_pow_right (by decide) h2);refine qV (E:=E0) qw Tryz.func143 rfl mixed (by kernel_rfl) (by kernel_rfl) ?_;conv=>whnf
 refine⟨_,hA,?_⟩;conv=>whnf
 refine⟨_,hB,?_⟩;conv=>whnf
 refine xG (xK.2 (show decide (((qj x).length:Int)<=2)=true from decide_eq_true (by omega))) ?_;conv=>whnf
 refine xG (show decide (((qj y).length:Int)<=2)=true from decide_eq_true (by omega)) ?_;conv=>whnf
 refine⟨_,wx,?_⟩;conv=>whnf
 refine⟨_,wy,?_⟩;conv=>whnf
 refine qK (fun p:Nat × Nat=>gst [(4,.c (.p 0 0 2 0 0)),(7,.c (.int .u64 (p.1:Nat))),(8,.c (.int .u64 (p.2:Nat)))] [zb]) (fun p=>p.2) (fun p=>Nat.gcd p.1 p.2=Nat.gcd x y/\p.1<18446744073709551616/\p.2<18446744073709551616) (x,y) rfl ?_ ⟨rfl,lx,ly⟩ ?_
 ·exact Weak.gen [some 2] rfl ⟨boxK rfl rfl,trivial⟩ ⟨⟨_,rfl,rfl,rfl⟩,⟨_,rfl,rfl⟩,⟨_,rfl,rfl⟩,trivial⟩
 rintro ⟨m,n⟩ ⟨hg,hm,hn⟩;have hg:Nat.gcd m n=Nat.gcd x y:=hg;have hm:m<18446744073709551616:=hm;have hn:n<18446744073709551616:=hn;have s1:=split_ok (x:=m) hm;have s2:=sgd_ok (n:=m) false (Nat.le_trans (show(qj m).length<=2 from digs_lt (show m<BB^2 from hm)) (by decide));have q1:Int.tmod (m:Int) (n:Int)=(m%n:Nat):=by rw[Int.tmod_eq_emod_of_nonneg (by omega)];rfl
 conv=>whnf
 refine qg (fun(h:decide ((0:Int)<(n:Nat))=true)=>?_) fun(h:decide ((0:Int)<(n:Nat))=false)=>?_
 ·have h:=of_decide_eq_true h;conv=>whnf
  refine⟨by omega,?_⟩;conv=>whnf
  exact⟨(n,m%n),Nat.mod_lt _ (by omega),Weak.gen [some 0] rfl ⟨boxK rfl rfl,trivial⟩ ⟨⟨_,rfl,rfl,rfl⟩,⟨_,rfl,rfl⟩,⟨_,rfl,q1⟩,trivial⟩,by rw[<- hg,Nat.gcd_comm m n,Nat.gcd_rec n m,Nat.gcd_comm],hn,Nat.lt_trans (Nat.mod_lt _ (by omega)) hn⟩
 ·have h:=of_decide_eq_false h;obtain rfl:n=0:=by omega
  have hg:m=Nat.gcd x y:=by rw[<- hg,Nat.gcd_zero_right]
  rw[<- hg];conv=>whnf
  refine⟨_,s1,?_⟩;conv=>whnf
  refine⟨_,s2,?_⟩;conv=>whnf
  exact⟨rfl,Sub.refl _⟩
theorem gcd_large {a b:RawZ} (ha:wr a) (hb:wr b) (h1:qB a.val<=524286) (h2:qB b.val<=524286) (h3:¬(qB a.val<=2/\qB b.val<=2)):FnOK Tryz.prog false 143 [.g (zr a),.g (zr b)] (.g (nz (Nat.gcd a.val.natAbs b.val.natAbs:Nat))):=by
 have hA:=zabs_ok ha;have hB:=zabs_ok hb;have h1:(qj a.val.natAbs).length<=524286:=h1;have h2:(qj b.val.natAbs).length<=524286:=h2;have h3:¬((qj a.val.natAbs).length<=2/\(qj b.val.natAbs).length<=2):=h3;generalize a.val.natAbs=x at *;generalize b.val.natAbs=y at *;have hEu:∀ m n:Nat,(qj m).length<=524286->(qj n).length<=524286->n≠0->FnOK Tryz.prog false 166 [.g (nz (m:Nat)),.g (nz (n:Nat))] (.t2 (.g (nz ((m / n:Nat):Int))) (.g (nz ((m%n:Nat):Int)))):=fun m n hm hn h0=>by
  have:=euclid_ok (a:=ofZ (m:Nat)) (b:=ofZ (n:Nat)) (k6 (Nat.le_trans hm (by decide))) (k6 (Nat.le_trans hn (by decide))) (by rw[qX];exact hm) (by rw[qX];exact hn) (by rw[qX];omega);rw[qX,qX]at this;exact this
 refine qV (E:=E0) qw Tryz.func143 rfl mixed (by kernel_rfl) (by kernel_rfl) ?_;conv=>whnf
 refine⟨_,hA,?_⟩;conv=>whnf
 refine⟨_,hB,?_⟩;conv=>whnf
 refine qg (fun(h:gw true (decide (((qj x).length:Int)<=2))=true)=>?_) fun(h:gw true (decide (((qj x).length:Int)<=2))=false)=>?_
 ·have h:=of_decide_eq_true (xK.1 h);conv=>whnf
  refine jj (show decide (((qj y).length:Int)<=2)=false from decide_eq_false (by omega)) ?_;conv=>whnf
  refine qK (fun p:Nat × Nat=>gst [(4,.c (.p 0 0 2 0 0)),(5,.c (.p 1 0 2 0 0)),(6,.c (.p 2 0 2 0 0))] [zb,zbx p.1,zbx p.2]) (fun p=>p.2) (fun p=>Nat.gcd p.1 p.2=Nat.gcd x y/\(qj p.1).length<=524286/\(qj p.2).length<=524286) (x,y) rfl ?_ ⟨rfl,h1,h2⟩ ?_
  ·exact Weak.gen [some 2,some 7,some 8] rfl ⟨boxK rfl rfl,boxU rfl rfl rfl,boxU rfl rfl rfl,trivial⟩ ⟨⟨_,rfl,rfl,rfl⟩,⟨_,rfl,rfl,rfl⟩,⟨_,rfl,rfl,rfl⟩,trivial⟩
  rintro ⟨m,n⟩ ⟨hg,hm,hn⟩;have hg:Nat.gcd m n=Nat.gcd x y:=hg;have hm:(qj m).length<=524286:=hm;have hn:(qj n).length<=524286:=hn;have hE:=hEu m n hm hn;conv=>whnf
  refine qg (fun(h:decide ((0:Int)<((qj n).length:Nat))=true)=>?_) fun(h:decide ((0:Int)<((qj n).length:Nat))=false)=>?_
  ·have h:n≠0:=fun e=>by
    have h:=of_decide_eq_true h;rw[e]at h;exact absurd h (by decide)
   have hE:=hE h;conv=>whnf
   refine⟨_,hE,?_⟩;conv=>whnf
   exact⟨(n,m%n),Nat.mod_lt _ (by omega),Weak.gen [some 0,some 1,some 2] rfl ⟨boxK rfl rfl,boxU rfl rfl rfl,boxU rfl rfl rfl,trivial⟩ ⟨⟨_,rfl,rfl,rfl⟩,⟨_,rfl,rfl,rfl⟩,⟨_,rfl,rfl,rfl⟩,trivial⟩,by rw[<- hg,Nat.gcd_comm m n,Nat.gcd_rec n m,Nat.gcd_comm],hn,Nat.le_trans (gB (Nat.le_of_lt (Nat.mod_lt _ (by omega)))) hn⟩
  ·have h:n=0:=vV.1 (by have h:=of_decide_eq_false h;omega);have hg:m=Nat.gcd x y:=by rw[<- hg,h,Nat.gcd_zero_right]
   have hs:Sub (.g (nz (m:Nat))) (.g (nz (Nat.gcd x y:Nat))):=by rw[<- hg];exact Sub.refl _
   conv=>whnf
   exact⟨rfl,hs⟩
 ·have h:¬((qj x).length:Int)<=2:=of_decide_eq_false (jv.1 h);conv=>whnf
  refine qK (fun p:Nat × Nat=>gst [(4,.c (.p 0 0 2 0 0)),(5,.c (.p 1 0 2 0 0)),(6,.c (.p 2 0 2 0 0))] [zb,zbx p.1,zbx p.2]) (fun p=>p.2) (fun p=>Nat.gcd p.1 p.2=Nat.gcd x y/\(qj p.1).length<=524286/\(qj p.2).length<=524286) (x,y) rfl ?_ ⟨rfl,h1,h2⟩ ?_
  ·exact Weak.gen [some 2,some 7,some 8] rfl ⟨boxK rfl rfl,boxU rfl rfl rfl,boxU rfl rfl rfl,trivial⟩ ⟨⟨_,rfl,rfl,rfl⟩,⟨_,rfl,rfl,rfl⟩,⟨_,rfl,rfl,rfl⟩,trivial⟩
  rintro ⟨m,n⟩ ⟨hg,hm,hn⟩;have hg:Nat.gcd m n=Nat.gcd x y:=hg;have hm:(qj m).length<=524286:=hm;have hn:(qj n).length<=524286:=hn;have hE:=hEu m n hm hn;conv=>whnf
  refine qg (fun(h:decide ((0:Int)<((qj n).length:Nat))=true)=>?_) fun(h:decide ((0:Int)<((qj n).length:Nat))=false)=>?_
  ·have h:n≠0:=fun e=>by
    have h:=of_decide_eq_true h;rw[e]at h;exact absurd h (by decide)
   have hE:=hE h;conv=>whnf
   refine⟨_,hE,?_⟩;conv=>whnf
   exact⟨(n,m%n),Nat.mod_lt _ (by omega),Weak.gen [some 0,some 1,some 2] rfl ⟨boxK rfl rfl,boxU rfl rfl rfl,boxU rfl rfl rfl,trivial⟩ ⟨⟨_,rfl,rfl,rfl⟩,⟨_,rfl,rfl,rfl⟩,⟨_,rfl,rfl,rfl⟩,trivial⟩,by rw[<- hg,Nat.gcd_comm m n,Nat.gcd_rec n m,Nat.gcd_comm],hn,Nat.le_trans (gB (Nat.le_of_lt (Nat.mod_lt _ (by omega)))) hn⟩
  ·have h:n=0:=vV.1 (by have h:=of_decide_eq_false h;omega);have hg:m=Nat.gcd x y:=by rw[<- hg,h,Nat.gcd_zero_right]
   have hs:Sub (.g (nz (m:Nat))) (.g (nz (Nat.gcd x y:Nat))):=by rw[<- hg];exact Sub.refl _
   conv=>whnf
   exact⟨rfl,hs⟩
theorem gcd_ok {a b:RawZ} (ha:wr a) (hb:wr b) (h1:qB a.val<=524286) (h2:qB b.val<=524286):FnOK Tryz.prog false 143 [.g (zr a),.g (zr b)] (.g (nz (Nat.gcd a.val.natAbs b.val.natAbs:Nat))):=by
 by_cases c:qB a.val<=2/\qB b.val<=2
 ·exact gcd_small ha hb c.1 c.2
 ·exact gcd_large ha hb h1 h2 c
end Rf
end Go.Proofs.YtkmbnldginonbaaGreat
namespace Go.Proofs.YtkmbnldginonbaaGreat
open Go.RowKit
namespace Rf
def mS (V a i:Nat) (b:Nat->Nat) (j:Nat):Nat:=V+a*nv b j*BB^i
def mC (V a i:Nat) (b:Nat->Nat) (j:Nat):Nat:=mS V a i b j / BB^(i+j)-V / BB^(i+j)
theorem mC_eq (V a i:Nat) (b:Nat->Nat) (j:Nat):mS V a i b j / BB^(i+j)=V / BB^(i+j)+mC V a i b j:=by
 have:=Nat.div_le_div_right (c:=BB^(i+j)) (show V<=mS V a i b j from Nat.le_add_right _ _);unfold mC;omega
theorem mC_zero (V a i:Nat) (b:Nat->Nat):mC V a i b 0=0:=by
 unfold mC mS;simp[nv]
theorem mC_lt {V a i:Nat} {b:Nat->Nat} {j:Nat} (ha:a<BB) (hb:DOk j b):mC V a i b j<BB:=by
 have h1:a*nv b j+BB^j<=BB*BB^j:=by
  have h2:=yK hb;have h3:a*nv b j<=(BB-1)*nv b j:=Nat.mul_le_mul_right _ (by omega);have h4:(BB-1)*nv b j<=(BB-1)*BB^j:=Nat.mul_le_mul_left _ (Nat.le_of_lt h2);have h5:(BB-1)*BB^j+BB^j=BB*BB^j:=by
   rw[<- Nat.succ_mul];congr 1
  omega
 have hP:0<BB^(i+j):=ww _;have e:=mC_eq V a i b j;have h6:mS V a i b j<(V / BB^(i+j)+BB)*BB^(i+j):=by
  have h7:=Nat.lt_div_mul_add (a:=V) hP;have h8:a*nv b j*BB^i<=(BB*BB^j-BB^j)*BB^i:=Nat.mul_le_mul_right _ (by omega);have h9:(BB*BB^j-BB^j)*BB^i+BB^(i+j)=BB*BB^(i+j):=by
   rw[Nat.pow_add,Nat.mul_sub_right_distrib,Nat.mul_comm (BB^i),Nat.mul_assoc];have:BB^j*BB^i<=BB*(BB^j*BB^i):=Nat.le_mul_of_pos_left _ (by decide);omega
  unfold mS;rw[Nat.add_mul];omega
 have:=(Nat.div_lt_iff_lt_mul hP).2 h6;omega
theorem m_step {V a i:Nat} {b:Nat->Nat} (j:Nat):(a*b j+dg V (i+j)+mC V a i b j)%BB=dg (mS V a i b (j+1)) (i+j)/\(a*b j+dg V (i+j)+mC V a i b j) / BB=mC V a i b (j+1):=by
 have hP:0<BB^(i+j):=ww _;have e1:=mC_eq V a i b j;have e2:mS V a i b (j+1)=mS V a i b j+a*b j*BB^(i+j):=by
  unfold mS;show V+a*(nv b j+BB^j*b j)*BB^i=_;rw[Nat.pow_add,Nat.mul_add,Nat.add_mul,<- Nat.add_assoc];congr 1;rw[Nat.mul_assoc,Nat.mul_assoc,Nat.mul_assoc];congr 1;rw[Nat.mul_comm (BB^j),Nat.mul_assoc]
 have e3:mS V a i b (j+1) / BB^(i+j)=V / BB^(i+j)+mC V a i b j+a*b j:=by
  rw[e2,Nat.add_mul_div_right _ _ hP,e1]
 have e4:V / BB^(i+j)=V / BB^(i+(j+1))*BB+dg V (i+j):=by
  unfold dg;rw[<- Nat.add_assoc,Nat.pow_succ,<- Nat.div_div_eq_div_mul];have:=Nat.div_add_mod (V / BB^(i+j)) BB;rw[Nat.mul_comm]at this;exact this.symm
 have e5:mS V a i b (j+1) / BB^(i+j)=(a*b j+dg V (i+j)+mC V a i b j)+V / BB^(i+(j+1))*BB:=by omega
 have hB:0<BB:=by decide
 refine⟨?_,?_⟩
 ·show _=mS V a i b (j+1) / BB^(i+j)%BB;rw[e5,Nat.add_mul_mod_self_right]
 ·have e6:mS V a i b (j+1) / BB^(i+(j+1))=(a*b j+dg V (i+j)+mC V a i b j) / BB+V / BB^(i+(j+1)):=by
   rw[show BB^(i+(j+1))=BB^(i+j)*BB by rw[<- Nat.add_assoc,Nat.pow_succ],<- Nat.div_div_eq_div_mul,e5,Nat.add_mul_div_right _ _ hB,<- Nat.add_assoc,Nat.pow_succ]
  have:=mC_eq V a i b (j+1);omega
theorem m_low {V a i:Nat} {b:Nat->Nat} {j k:Nat} (h:k<i+j):dg (mS V a i b (j+1)) k=dg (mS V a i b j) k:=by
 have e2:mS V a i b (j+1)=mS V a i b j+a*b j*BB^(i+j):=by
  unfold mS;show V+a*(nv b j+BB^j*b j)*BB^i=_;rw[Nat.pow_add,Nat.mul_add,Nat.add_mul,<- Nat.add_assoc];congr 1;rw[Nat.mul_assoc,Nat.mul_assoc,Nat.mul_assoc];congr 1;rw[Nat.mul_comm (BB^j),Nat.mul_assoc]
 unfold dg;have e3:BB^(i+j)=BB^(i+j-(k+1))*BB*BB^k:=by
  rw[Nat.mul_assoc,Nat.mul_comm BB,<- Nat.pow_succ,<- Nat.pow_add];congr 1;omega
 rw[e2,e3,<- Nat.mul_assoc,<- Nat.mul_assoc,Nat.add_mul_div_right _ _ (ww k),Nat.add_mul_mod_self_right]
def mD (V a i:Nat) (b:Nat->Nat) (j k:Nat):Nat:=if k<i+j then dg (mS V a i b j) k else dg V k
theorem mD_zero (V a i:Nat) (b:Nat->Nat) (k:Nat):mD V a i b 0 k=dg V k:=by
 unfold mD mS;simp[nv]
theorem mD_at (V a i:Nat) (b:Nat->Nat) (j:Nat):mD V a i b j (i+j)=dg V (i+j):=by
 unfold mD;rw[if_neg (by omega)]
theorem mD_next (V a i:Nat) (b:Nat->Nat) (j k:Nat):(if k=i+j then(a*b j+dg V (i+j)+mC V a i b j)%BB else mD V a i b j k)=mD V a i b (j+1) k:=by
 unfold mD;by_cases e:k=i+j
 ·rw[if_pos e,if_pos (by omega),(m_step j).1,e]
 ·rw[if_neg e];by_cases e2:k<i+j
  ·rw[if_pos e2,if_pos (by omega),m_low e2]
  ·rw[if_neg e2,if_neg (by omega)]
theorem mD_end {V a i m:Nat} {b:Nat->Nat} (hV:V<BB^(i+m)) (ha:a<BB) (hb:DOk m b) (k:Nat):(if k=i+m then mC V a i b m else mD V a i b m k)=dg (mS V a i b m) k:=by
 have e:=mC_eq V a i b m;rw[Nat.div_eq_of_lt hV,Nat.zero_add]at e;have hc:=mC_lt (V:=V) (i:=i) ha hb;unfold mD;by_cases c:k=i+m
 ·rw[if_pos c,c];unfold dg;rw[e,Nat.mod_eq_of_lt hc]
 ·rw[if_neg c];by_cases c2:k<i+m
  ·rw[if_pos c2]
  ·rw[if_neg c2];have hS:mS V a i b m<BB^(i+m+1):=by
    rw[Nat.pow_succ,Nat.mul_comm];have:=(Nat.div_lt_iff_lt_mul (ww (i+m))).1 (show mS V a i b m / BB^(i+m)<BB by omega);exact this
   have h1:BB^(i+m+1)<=BB^k:=Nat.pow_le_pow_right (by decide) (by omega);have h2:BB^(i+m)<=BB^k:=Nat.pow_le_pow_right (by decide) (by omega);unfold dg;rw[Nat.div_eq_of_lt (by omega),Nat.div_eq_of_lt (by omega)]
theorem mS_end {y i:Nat} {a b:Nat->Nat} {m:Nat} (hy:nv b m=y):mS (nv a i*y) (a i) i b m=nv a (i+1)*y:=by
 unfold mS;show _=(nv a i+BB^i*a i)*y;rw[hy,Nat.add_mul];congr 1;rw[Nat.mul_assoc,Nat.mul_comm,Nat.mul_assoc,Nat.mul_comm y,Nat.mul_assoc]
theorem mul_word {u v w c:Nat} (hu:u<BB) (hv:v<BB) (hw:w<BB) (hc:c<BB):IntKind.u64.wrap (IntKind.u64.wrap (IntKind.u64.wrap (IntKind.u64.wrap (u:Int)*IntKind.u64.wrap (v:Int))+IntKind.u64.wrap (w:Int))+(c:Int))=((u*v+w+c:Nat):Int):=by
 have hu:u<4294967296:=hu;have hv:v<4294967296:=hv;have hw:w<4294967296:=hw;have hc:c<4294967296:=hc;have h1:u*v<=4294967295*4294967295:=Nat.mul_le_mul (by omega) (by omega);rw[w64 (x:=(u:Int)) (by omega) (by omega),w64 (x:=(v:Int)) (by omega) (by omega),w64 (x:=(w:Int)) (by omega) (by omega),<- Int.natCast_mul];generalize u*v=t at *;rw[w64 (x:=(t:Int)) (by omega) (by omega),w64 (x:=(t:Int)+(w:Int)) (by omega) (by omega),w64 (by omega) (by omega)];omega
theorem sgn_mul (p q:Bool) (x y:Nat):sgn (!(p == q)) (x*y)=sgn p x*sgn q y:=by
 cases p <;> cases q <;> simp[sgn,Int.mul_neg,Int.neg_mul]
set_option maxHeartbeats 8000000 in
theorem rmulz_ok {a b:RawZ} (ha:wr a) (hb:wr b) (hl:qB a.val+qB b.val<=1048576):FnOK Tryz.prog false 105 [.g (zr a),.g (zr b)] (.g (nz (a.val*b.val))):=by
 have t1:=gy (jK ha.1 a.ds.length) ha.2;have t2:=gy (jK hb.1 b.ds.length) hb.2;obtain⟨x,hx⟩:∃ x,x=nv (ld a.ds) a.ds.length:=⟨_,rfl⟩;obtain⟨y,hy⟩:∃ y,y=nv (ld b.ds) b.ds.length:=⟨_,rfl⟩;rw[<- hx]at t1;rw[<- hy]at t2;have ex:a.val=sgn a.neg x:=by rw[hx];exact(nv_raw a).symm
 have ey:b.val=sgn b.neg y:=by rw[hy];exact(nv_raw b).symm
 have lx:qB a.val=(qj x).length:=by rw[ex];unfold qB;rw[sgn_abs]
 have ly:qB b.val=(qj y).length:=by rw[ey];unfold qB;rw[sgn_abs]
 rw[lx,ly]at hl;rw[ex,ey,<- sgn_mul];have dx:=jK (zP x) (qj x).length;have dy:=jK (zP y) (qj y).length;have vx:=xb x;have vy:=xb y;have bx:=jY x;have by':=jY y
 obtain⟨α,hα⟩:∃ α,α=ld (qj x):=⟨_,rfl⟩;obtain⟨β,hβ⟩:∃ β,β=ld (qj y):=⟨_,rfl⟩;rw[<- hα]at dx vx;rw[<- hβ]at dy vy;have hS:=fun s=>sg_ok (x:=x*y) (q:=(qj x).length+(qj y).length) s (by rw[Nat.pow_add];exact Nat.mul_lt_mul'' bx by') hl;clear ex ey lx ly hx hy;have hVl:∀ i:Nat,(i:Int)<(qj x).length->nv α i*y<BB^(i+(qj y).length):=fun i hi=>by
  rw[Nat.pow_add];exact Nat.mul_lt_mul'' (yK (dx.mono (by omega))) by'
 refine qV (E:=E0) qw Tryz.func105 rfl mixed (by kernel_rfl) (by kernel_rfl) ?_;conv=>whnf
 refine⟨_,t1,?_⟩;conv=>whnf
 refine⟨_,t2,?_⟩;conv=>whnf
 refine⟨i64 (by omega) (by omega),?_⟩;conv=>whnf
 refine⟨by omega,Int.le_refl _,by omega,by show(4:Int)*(((qj x).length:Int)+((qj y).length:Int))<=281474976710656;omega,?_⟩;have eN:(((qj x).length:Int)+((qj y).length:Int)).toNat=(qj x).length+(qj y).length:=by omega
 conv=>whnf
 refine qK (fun i:Nat=>gst [(2,.c (.p 0 0 2 0 0)),(3,.c (.p 1 0 2 0 0)),(4,.c (.p 2 0 2 0 0)),(5,.c (dsC (qj x))),(6,.c (dsC (qj y))),(7,.c (.gs 3 0)),(8,.c (.int .i64 i))] [⟨36,2,1,qk (zr a)⟩,⟨36,2,1,qk (zr b)⟩,⟨36,2,1,qk [.bool false,.nil]⟩,gd ((qj x).length+(qj y).length) (dg (nv α i*y))]) (fun i=>(qj x).length-i) (fun i=>i<=(qj x).length) 0 rfl ?_ (Nat.zero_le _) fun i hi=>?_
 ·refine Weak.gen [some 0,some 1,some 2,some 3] rfl ⟨boxK rfl rfl,boxK rfl rfl,boxK rfl rfl,⟨_,rfl,rfl,rfl,eN,rfl,fun p k hp hk=>?_⟩,trivial⟩ ⟨⟨_,rfl,rfl,rfl⟩,⟨_,rfl,rfl,rfl⟩,⟨_,rfl,rfl,rfl⟩,rO rfl,rO rfl,⟨_,rfl,rfl,rfl⟩,⟨_,rfl,rfl⟩,trivial⟩;obtain rfl:=Nat.lt_one_iff.1 hk;exact⟨_,rfl,by show(0:Int)=(dg (nv α 0*y) p:Nat);simp[nv,dg]⟩
 conv=>whnf
 refine qg (fun(h:decide ((i:Int)<(qj x).length)=true)=>?_) fun(h:decide ((i:Int)<(qj x).length)=false)=>?_
 ·have h:=of_decide_eq_true h;conv=>whnf
  refine qK (fun j:Nat=>gst [(2,.c (.p 0 0 2 0 0)),(3,.c (.p 1 0 2 0 0)),(4,.c (.p 2 0 2 0 0)),(5,.c (dsC (qj x))),(6,.c (dsC (qj y))),(7,.c (.gs 3 0)),(8,.c (.int .i64 i)),(9,.c (.int .u64 (mC (nv α i*y) (α i) i β j:Nat))),(10,.c (.int .i64 j))] [⟨36,2,1,qk (zr a)⟩,⟨36,2,1,qk (zr b)⟩,⟨36,2,1,qk [.bool false,.nil]⟩,gd ((qj x).length+(qj y).length) (mD (nv α i*y) (α i) i β j)]) (fun j=>(qj y).length-j) (fun j=>j<=(qj y).length) 0 rfl ?_ (Nat.zero_le _) fun j hj=>?_
  ·exact Weak.gen [some 0,some 1,some 2,some 3] rfl ⟨boxK rfl rfl,boxK rfl rfl,boxK rfl rfl,⟨_,rfl,rfl,rfl,rfl,rfl,fun p k hp hk=>⟨_,congrArg (fun t:Nat=>Cell.int .u32 (t:Nat)) (mD_zero _ _ _ _ p).symm,rfl⟩⟩,trivial⟩ ⟨⟨_,rfl,rfl,rfl⟩,⟨_,rfl,rfl,rfl⟩,⟨_,rfl,rfl,rfl⟩,rO rfl,rO rfl,⟨_,rfl,rfl,rfl⟩,⟨_,rfl,rfl⟩,⟨_,rfl,by rw[mC_zero];rfl⟩,⟨_,rfl,rfl⟩,trivial⟩
  conv=>whnf
  refine qg (fun(h1:decide ((j:Int)<(qj y).length)=true)=>?_) fun(h1:decide ((j:Int)<(qj y).length)=false)=>?_
  ·have h1:=of_decide_eq_true h1;have hw1:IntKind.u64.wrap (IntKind.u64.wrap (IntKind.u64.wrap (IntKind.u64.wrap (((qj x).getD ((i:Int)).toNat 0:Nat):Int)*IntKind.u64.wrap (((qj y).getD ((j:Int)).toNat 0:Nat):Int))+IntKind.u64.wrap ((mD (nv α i*y) (α i) i β j ((i:Int)+(j:Int)).toNat:Nat):Int))+((mC (nv α i*y) (α i) i β j:Nat):Int))=((α i*β j+dg (nv α i*y) (i+j)+mC (nv α i*y) (α i) i β j:Nat):Int):=by
    rw[show((i:Int)+(j:Int)).toNat=i+j by omega,mD_at];have e1:(qj x).getD ((i:Int)).toNat 0=α i:=by rw[hα];rfl
    have e2:(qj y).getD ((j:Int)).toNat 0=β j:=by rw[hβ];rfl
    rw[e1,e2];exact mul_word (dx i (by omega)) (dy j (by omega)) (dg_lt _ _) (mC_lt (dx i (by omega)) (dy.mono (by omega)))
   conv=>whnf
   refine⟨by omega,by omega,?_⟩;conv=>whnf
   refine⟨by omega,by omega,?_⟩;conv=>whnf
   refine⟨i64 (by omega) (by omega),?_⟩;conv=>whnf
   refine⟨by omega,by show(i:Int)+(j:Int)<(((qj x).length+(qj y).length:Nat):Int);omega,?_⟩;conv=>whnf
   refine⟨i64 (by omega) (by omega),?_⟩;conv=>whnf
   refine⟨by omega,by show(i:Int)+(j:Int)<(((qj x).length+(qj y).length:Nat):Int);omega,?_⟩;conv=>whnf
   refine⟨by omega,?_⟩;conv=>whnf
   refine⟨i64 (by omega) (by omega),?_⟩;conv=>whnf
   refine⟨j+1,by omega,Weak.gen [some 0,some 1,some 2,some 3] rfl ⟨boxK rfl rfl,boxK rfl rfl,boxK rfl rfl,⟨_,rfl,rfl,rfl,rfl,rfl,fun p k hp hk=>⟨_,updN hk ?_,rfl⟩⟩,trivial⟩ ⟨⟨_,rfl,rfl,rfl⟩,⟨_,rfl,rfl,rfl⟩,⟨_,rfl,rfl,rfl⟩,rO rfl,rO rfl,⟨_,rfl,rfl,rfl⟩,⟨_,rfl,rfl⟩,⟨_,rfl,?_⟩,⟨_,rfl,rfl⟩,trivial⟩,by omega⟩
   ·rw[hw1];show(if p=((i:Int)+(j:Int)).toNat then IntKind.u32.wrap ((α i*β j+dg (nv α i*y) (i+j)+mC (nv α i*y) (α i) i β j:Nat):Int)else((mD (nv α i*y) (α i) i β j p:Nat):Int))=(mD (nv α i*y) (α i) i β (j+1) p:Nat);rw[show((i:Int)+(j:Int)).toNat=i+j by omega,w32,<- mD_next];split <;> rfl
   ·rw[hw1];show Int.fdiv ((α i*β j+dg (nv α i*y) (i+j)+mC (nv α i*y) (α i) i β j:Nat):Int) (2^32)=_;rw[sh32,(m_step j).2]
  ·have h1:=of_decide_eq_false h1;have ej:j=(qj y).length:=by omega
   conv=>whnf
   refine⟨i64 (by omega) (by omega),?_⟩;conv=>whnf
   refine⟨by omega,by show(i:Int)+((qj y).length:Int)<(((qj x).length+(qj y).length:Nat):Int);omega,?_⟩;conv=>whnf
   refine⟨i64 (by omega) (by omega),?_⟩;conv=>whnf
   refine⟨i+1,by omega,Weak.gen [some 0,some 1,some 2,some 3] rfl ⟨boxK rfl rfl,boxK rfl rfl,boxK rfl rfl,⟨_,rfl,rfl,rfl,rfl,rfl,fun p k hp hk=>⟨_,updN hk ?_,rfl⟩⟩,trivial⟩ ⟨⟨_,rfl,rfl,rfl⟩,⟨_,rfl,rfl,rfl⟩,⟨_,rfl,rfl,rfl⟩,rO rfl,rO rfl,⟨_,rfl,rfl,rfl⟩,⟨_,rfl,rfl⟩,trivial⟩,by omega⟩;show(if p=((i:Int)+((qj y).length:Int)).toNat then IntKind.u32.wrap (mC (nv α i*y) (α i) i β j:Nat)else((mD (nv α i*y) (α i) i β j p:Nat):Int))=(dg (nv α (i+1)*y) p:Nat);rw[show((i:Int)+((qj y).length:Int)).toNat=i+(qj y).length by omega,w32,ej];have e1:=mD_end (V:=nv α i*y) (a:=α i) (i:=i) (b:=β) (m:=(qj y).length) (hVl i h) (dx i (by omega)) dy p;rw[mS_end vy]at e1;rw[<- e1,Nat.mod_eq_of_lt (mC_lt (dx i (by omega)) dy)];split <;> rfl
 ·have h:=of_decide_eq_false h;have e:i=(qj x).length:=by omega
  have g:=hS (!(a.neg == b.neg));have g:FnOK Tryz.prog false 141 [.c (.bool (!(a.neg == b.neg))),.c (dn ((qj x).length+(qj y).length) (dg (nv α i*y)))] (.g (nz (sgn (!(a.neg == b.neg)) (x*y)))):=by
   rw[e,vx];exact g
  conv=>whnf
  refine⟨fun _ _ _ _=>rfl,?_⟩;conv=>whnf
  refine⟨_,g,?_⟩;conv=>whnf
  exact⟨rfl,Sub.refl _⟩
end Rf
end Go.Proofs.YtkmbnldginonbaaGreat
