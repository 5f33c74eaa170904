/- Commutative rings of one's own, identities in them by reflection, sums. Plain: no program. -/
namespace Go.Proofs.YtkmbnldginonbaaGreat
class Crg (α : Type) extends Add α, Mul α, Neg α, _root_.Sub α, Zero α, One α where
 add_assoc:∀ a b c:α,a+b+c=a+(b+c)
 add_comm:∀ a b:α,a+b=b+a
 add_zero:∀ a:α,a+0=a
 add_neg:∀ a:α,a + -a=0
 sub_def:∀ a b:α,a-b=a + -b
 mul_assoc:∀ a b c:α,a*b*c=a*(b*c)
 mul_comm:∀ a b:α,a*b=b*a
 mul_one:∀ a:α,a*1=a
 mul_add:∀ a b c:α,a*(b+c)=a*b+a*c
namespace Crg
section
variable {α:Type} [Crg α]
theorem zero_add (a:α):0+a=a:=by rw[add_comm,add_zero]
theorem one_mul (a:α):1*a=a:=by rw[mul_comm,mul_one]
theorem yP (a:α) : -a+a=0:=by rw[add_comm,add_neg]
theorem add_mul (a b c:α):(a+b)*c=a*c+b*c:=by rw[mul_comm,mul_add,mul_comm c,mul_comm c]
theorem wW {a b c:α} (h:a+b=a+c):b=c:=by
 have h:=congrArg (-a+·) h;simp only[<- add_assoc,yP,zero_add]at h;exact h
theorem add_right_cancel {a b c:α} (h:b+a=c+a):b=c:=by
 rw[add_comm b,add_comm c]at h;exact wW h
theorem mul_zero (a:α):a*0=0:=by
 have h:a*0+a*0=a*0+0:=by rw[<- mul_add,add_zero,add_zero]
 exact wW h
theorem zero_mul (a:α):0*a=0:=by rw[mul_comm,mul_zero]
theorem VY {a b:α} (h:a+b=0):b = -a:=wW (h.trans (add_neg a).symm)
theorem neg_zero : -(0:α)=0:=(VY (add_zero 0)).symm
theorem neg_neg (a:α) : -(-a)=a:=(VY (yP a)).symm
theorem mul_neg (a b:α):a * -b = -(a*b):=VY (by rw[<- mul_add,add_neg,mul_zero])
theorem neg_mul (a b:α) : -a*b = -(a*b):=by rw[mul_comm,mul_neg,mul_comm]
theorem sub_zero (a:α):a-0=a:=by rw[sub_def,neg_zero,add_zero]
theorem sub_self (a:α):a-a=0:=by rw[sub_def,add_neg]
theorem sub_eq_zero {a b:α}:a-b=0↔a=b:=by
 rw[sub_def];refine⟨fun h=>?_,fun h=>by rw[h,add_neg]⟩;rw[add_comm]at h;have:=VY h;rw[neg_neg]at this;exact this
theorem j9 (a b c:α):a+(b+c)=b+(a+c):=by rw[<- add_assoc,add_comm a,add_assoc]
theorem mul_left_comm (a b c:α):a*(b*c)=b*(a*c):=by rw[<- mul_assoc,mul_comm a,mul_assoc]
def pw (a : α) : Nat → α
 | 0=>1
 | n+1=>pw a n*a
def sm (f : Nat → α) : Nat → α
 | 0=>0
 | n+1=>sm f n+f n
theorem sm_congr {f g : Nat → α} : ∀ {n : Nat}, (∀ i, i < n → f i = g i) → sm f n = sm g n
 | 0,_=>rfl
 | n+1,h=>by
  show sm f n+f n=sm g n+g n;rw[sm_congr fun i hi=>h i (by omega),h n (by omega)]
theorem z8 {f:Nat->α} {n:Nat} (h:∀ i,i<n->f i=0):sm f n=0:=by
 induction n with
 | zero=>rfl
 | succ n ih =>
  show sm f n+f n=0;rw[ih fun i hi=>h i (by omega),h n (by omega),add_zero]
theorem sm_add (f g : Nat → α) : ∀ n, sm (fun i => f i + g i) n = sm f n + sm g n
 | 0=>(add_zero _).symm
 | n+1=>by
  show sm (fun i=>f i+g i) n+(f n+g n)=sm f n+f n+(sm g n+g n);rw[sm_add f g n,add_assoc,add_assoc,j9 (sm g n)]
theorem mul_sm (c : α) (f : Nat → α) : ∀ n, c * sm f n = sm (fun i => c * f i) n
 | 0=>mul_zero c
 | n+1=>by
  show c*(sm f n+f n)=_+_;rw[mul_add,mul_sm c f n]
theorem sm_mul (c:α) (f:Nat->α) (n:Nat):sm f n*c=sm (fun i=>f i*c) n:=by
 rw[mul_comm,mul_sm];exact sm_congr fun i _=>mul_comm _ _
theorem sm_neg (f : Nat → α) : ∀ n, sm (fun i => -f i) n = -sm f n
 | 0=>neg_zero.symm
 | n+1=>by
  show sm (fun i => -f i) n + -f n = -(sm f n+f n);rw[sm_neg f n];refine VY ?_;rw[add_assoc,j9 (f n),add_neg,add_zero,add_neg]
theorem sm_head (f : Nat → α) : ∀ n, sm f (n + 1) = f 0 + sm (fun i => f (i + 1)) n
 | 0=>by show 0+f 0=f 0+0;rw[zero_add,add_zero]
 | n+1=>by
  show sm f (n+1)+f (n+1)=f 0+(sm (fun i=>f (i+1)) n+f (n+1));rw[sm_head f n,add_assoc]
theorem sm_rev : ∀ (n : Nat) (f : Nat → α), sm f n = sm (fun i => f (n - 1 - i)) n
 | 0,_=>rfl
 | n+1,f=>by
  rw[sm_head f n,sm_rev n fun i=>f (i+1)];show f 0+_=sm (fun i=>f (n+1-1-i)) n+f (n+1-1-n);rw[show n+1-1-n=0 by omega,add_comm];congr 1;refine sm_congr fun i hi=>?_;rw[show n-1-i+1=n+1-1-i by omega]
theorem Vw {f : Nat → α} {n : Nat} (h : ∀ i, n ≤ i → f i = 0) : ∀ {m : Nat}, n ≤ m → sm f m = sm f n
 | 0,hm=>by rw[Nat.le_zero.1 hm]
 | m+1,hm=>by
  rcases Nat.lt_or_ge m n with h1 | h1
  ·rw[show n=m+1 by omega]
  ·show sm f m+f m=_;rw[h m h1,add_zero,Vw h h1]
theorem x7 {f:Nat->α} {n k:Nat} (hk:k<n) (h:∀ i,i<n->i≠k->f i=0):sm f n=f k:=by
 induction n with
 | zero=>omega
 | succ n ih =>
  show sm f n+f n=f k;by_cases e:k=n
  ·subst e;rw[z8 fun i hi=>h i (by omega) (by omega),zero_add]
  ·rw[ih (by omega) fun i hi=>h i (by omega),h n (by omega) (fun h=>e h.symm),add_zero]
theorem sm_swap (f : Nat → Nat → α) (m : Nat) : ∀ n, sm (fun i => sm (f i) m) n = sm (fun j => sm (fun i => f i j) n) m
 | 0=>by
  rw[z8 (f:=fun j=>sm (fun i=>f i j) 0) fun _ _=>rfl];rfl
 | n+1=>by
  show sm (fun i=>sm (f i) m) n+sm (f n) m=sm (fun j=>sm (fun i=>f i j) n+f n j) m;rw[sm_swap f m n,sm_add]
theorem sm_tri (f : Nat → Nat → α) : ∀ n, sm (fun i => sm (fun j => f j (i - j)) (i + 1)) n = sm (fun j => sm (fun l => f j l) (n - j)) n
 | 0=>rfl
 | n+1=>by
  show sm (fun i=>sm (fun j=>f j (i-j)) (i+1)) n+sm (fun j=>f j (n-j)) (n+1)=sm (fun j=>sm (fun l=>f j l) (n+1-j)) n+sm (fun l=>f n l) (n+1-n);rw[sm_tri f n];have e:sm (fun j=>sm (fun l=>f j l) (n+1-j)) n=sm (fun j=>sm (fun l=>f j l) (n-j)) n+sm (fun j=>f j (n-j)) n:=by
   rw[<- sm_add];refine sm_congr fun j hj=>?_;rw[show n+1-j=n-j+1 by omega];rfl
  have e2:sm (fun l=>f n l) (n+1-n)=f n (n-n):=by
   rw[show n+1-n=1 by omega,Nat.sub_self];exact zero_add _
  rw[e,e2,add_assoc];rfl
theorem sm_split (f : Nat → α) (n : Nat) : ∀ m, sm f (n + m) = sm f n + sm (fun i => f (n + i)) m
 | 0=>(add_zero _).symm
 | m+1=>by
  show sm f (n+m)+f (n+m)=sm f n+(sm (fun i=>f (n+i)) m+f (n+m));rw[sm_split f n m,add_assoc]
end
/-! ### Identities -/
inductive RE where
 | v (i:Nat)
 | z
 | o
 | add (a b:RE)
 | mul (a b:RE)
 | neg (a:RE)
 | sub (a b:RE)
instance:Add RE:=⟨.add⟩
instance:Mul RE:=⟨.mul⟩
instance:Neg RE:=⟨.neg⟩
instance:_root_.Sub RE:=⟨.sub⟩
instance:OfNat RE 0:=⟨.z⟩
instance:OfNat RE 1:=⟨.o⟩
abbrev t0:RE := .v 0
abbrev t1:RE := .v 1
abbrev t2:RE := .v 2
abbrev t3:RE := .v 3
abbrev t4:RE := .v 4
abbrev t5:RE := .v 5
abbrev t6:RE := .v 6
abbrev t7:RE := .v 7
def insN (a : Nat) : List Nat → List Nat
 | []=>[a]
 | b :: l=>if Nat.ble a b then a :: b :: l else b :: insN a l
def mergeN (l m:List Nat):List Nat:=l.foldr insN m
def leN : List Nat → List Nat → Bool
 | [],_=>true
 | _ :: _,[]=>false
 | a :: l,b :: m=>if Nat.blt a b then true else if Nat.blt b a then false else leN l m
def insL (a : List Nat) : List (List Nat) → List (List Nat)
 | []=>[a]
 | b :: l=>if leN a b then a :: b :: l else b :: insL a l
def sortL (l:List (List Nat)):List (List Nat):=l.foldr insL []
def prodL (l m:List (List Nat)):List (List Nat):=l.foldr (fun x r=>m.map (mergeN x)++r) []
def RE.nf : RE → List (List Nat) × List (List Nat)
 | .v i=>([[i]],[])
 | .z=>([],[])
 | .o=>([[]],[])
 | .add a b=>(a.nf.1++b.nf.1,a.nf.2++b.nf.2)
 | .neg a=>(a.nf.2,a.nf.1)
 | .sub a b=>(a.nf.1++b.nf.2,a.nf.2++b.nf.1)
 | .mul a b=>(prodL a.nf.1 b.nf.1++prodL a.nf.2 b.nf.2,prodL a.nf.1 b.nf.2++prodL a.nf.2 b.nf.1)
def eqL : List (List Nat) → List (List Nat) → Bool
 | [],[]=>true
 | a :: l,b :: m=>leN a b&&leN b a&&eqL l m
 | _,_=>false
def RE.chk (a b:RE):Bool:=eqL (sortL (a.nf.1++b.nf.2)) (sortL (b.nf.1++a.nf.2))
section
variable {α:Type} [Crg α]
def RE.ev (ρ : List α) : RE → α
 | .v i=>ρ.getD i 0
 | .z=>0
 | .o=>1
 | .add a b=>a.ev ρ+b.ev ρ
 | .mul a b=>a.ev ρ*b.ev ρ
 | .neg a => -a.ev ρ
 | .sub a b=>a.ev ρ-b.ev ρ
def mon (ρ : List α) : List Nat → α
 | []=>1
 | i :: l=>ρ.getD i 0*mon ρ l
def tot (ρ : List α) : List (List Nat) → α
 | []=>0
 | a :: l=>mon ρ a+tot ρ l
theorem mon_ins (ρ : List α) (a : Nat) : ∀ l, mon ρ (insN a l) = ρ.getD a 0 * mon ρ l
 | []=>rfl
 | b :: l=>by
  unfold insN;split
  ·rfl
  ·show ρ.getD b 0*mon ρ (insN a l)=_;rw[mon_ins ρ a l,mul_left_comm];rfl
theorem mon_merge (ρ : List α) (m : List Nat) : ∀ l, mon ρ (mergeN l m) = mon ρ l * mon ρ m
 | []=>(one_mul _).symm
 | a :: l=>by
  show mon ρ (insN a (mergeN l m))=ρ.getD a 0*mon ρ l*mon ρ m;rw[mon_ins,mon_merge ρ m l,mul_assoc]
theorem jZ (ρ : List α) (m : List (List Nat)) : ∀ l, tot ρ (l ++ m) = tot ρ l + tot ρ m
 | []=>(zero_add _).symm
 | a :: l=>by
  show mon ρ a+tot ρ (l++m)=mon ρ a+tot ρ l+tot ρ m;rw[jZ ρ m l,add_assoc]
theorem tot_map (ρ : List α) (x : List Nat) : ∀ m, tot ρ (m.map (mergeN x)) = mon ρ x * tot ρ m
 | []=>(mul_zero _).symm
 | a :: m=>by
  show mon ρ (mergeN x a)+tot ρ (m.map (mergeN x))=mon ρ x*(mon ρ a+tot ρ m);rw[mon_merge,tot_map ρ x m,mul_add]
theorem Wf (ρ : List α) (m : List (List Nat)) : ∀ l, tot ρ (prodL l m) = tot ρ l * tot ρ m
 | []=>(zero_mul _).symm
 | a :: l=>by
  show tot ρ (m.map (mergeN a)++prodL l m)=(mon ρ a+tot ρ l)*tot ρ m;rw[jZ,tot_map,Wf ρ m l,add_mul]
theorem tot_ins (ρ : List α) (a : List Nat) : ∀ l, tot ρ (insL a l) = mon ρ a + tot ρ l
 | []=>rfl
 | b :: l=>by
  unfold insL;split
  ·rfl
  ·show mon ρ b+tot ρ (insL a l)=_;rw[tot_ins ρ a l,j9];rfl
theorem tot_sort (ρ : List α) : ∀ l, tot ρ (sortL l) = tot ρ l
 | []=>rfl
 | a :: l=>by
  show tot ρ (insL a (sortL l))=_;rw[tot_ins,tot_sort ρ l];rfl
theorem leN_eq : ∀ {l m : List Nat}, leN l m = true → leN m l = true → l = m
 | [],[],_,_=>rfl
 | [],_ :: _,_,h=>by cases h
 | _ :: _,[],h,_=>by cases h
 | a :: l,b :: m,h,k=>by
  unfold leN at h k;by_cases e1:Nat.blt a b=true
  ·rw[if_pos e1]at k;rw[Nat.blt_eq]at e1;rw[if_neg (by rw[Nat.blt_eq];omega)]at k;cases k
  ·by_cases e2:Nat.blt b a=true
   ·rw[if_neg e1,if_pos e2]at h;cases h
   ·rw[if_neg e1,if_neg e2]at h;rw[if_neg e2,if_neg e1]at k;rw[Nat.blt_eq]at e1 e2;rw[leN_eq h k,show a=b by omega]
theorem eqL_eq : ∀ {l m : List (List Nat)}, eqL l m = true → l = m
 | [],[],_=>rfl
 | [],_ :: _,h=>by cases h
 | _ :: _,[],h=>by cases h
 | a :: l,b :: m,h=>by
  unfold eqL at h;simp only[Bool.and_eq_true]at h;rw[leN_eq h.1.1 h.1.2,eqL_eq h.2]
theorem RE.ev_nf (ρ : List α) : ∀ e : RE, e.ev ρ + tot ρ e.nf.2 = tot ρ e.nf.1
 | .v i=>by show ρ.getD i 0+0=ρ.getD i 0*1+0;rw[mul_one]
 | .z=>rfl |> fun h=>(add_zero (0:α)).trans h
 | .o=>rfl
 | .add a b=>by
  show a.ev ρ+b.ev ρ+tot ρ (a.nf.2++b.nf.2)=tot ρ (a.nf.1++b.nf.1);rw[jZ,jZ,<- ev_nf ρ a,<- ev_nf ρ b,add_assoc,add_assoc,j9 (b.ev ρ)]
 | .neg a=>by
  show -a.ev ρ+tot ρ a.nf.1=tot ρ a.nf.2;rw[<- ev_nf ρ a,<- add_assoc,yP,zero_add]
 | .sub a b=>by
  show a.ev ρ-b.ev ρ+tot ρ (a.nf.2++b.nf.1)=tot ρ (a.nf.1++b.nf.2);rw[jZ,jZ,<- ev_nf ρ a,<- ev_nf ρ b,sub_def,add_assoc,add_assoc];congr 1;rw[j9 (tot ρ a.nf.2),<- add_assoc (-b.ev ρ),yP,zero_add]
 | .mul a b=>by
  show a.ev ρ*b.ev ρ+tot ρ (prodL a.nf.1 b.nf.2++prodL a.nf.2 b.nf.1)=tot ρ (prodL a.nf.1 b.nf.1++prodL a.nf.2 b.nf.2);rw[jZ,jZ,Wf,Wf,Wf,Wf,<- ev_nf ρ a,<- ev_nf ρ b];simp only[mul_add,add_mul];generalize a.ev ρ=x;generalize b.ev ρ=y;generalize tot ρ a.nf.2=u;generalize tot ρ b.nf.2=w;simp only[add_assoc];congr 1;rw[j9 (u*w),add_comm (u*w),<- add_assoc,add_comm (x*w),add_assoc]
theorem RE.eq (ρ:List α) (a b:RE) (h:RE.chk a b=true):a.ev ρ=b.ev ρ:=by
 have h:=congrArg (tot ρ) (eqL_eq h);rw[tot_sort,tot_sort,jZ,jZ,<- ev_nf ρ a,<- ev_nf ρ b]at h;rw[add_assoc,add_assoc,add_comm (tot ρ b.nf.2)]at h;exact add_right_cancel h
end
end Crg
end Go.Proofs.YtkmbnldginonbaaGreat
namespace Go.Proofs.YtkmbnldginonbaaGreat
open Crg
class Fld (K : Type) extends Crg K where
 inv:K->K
 mul_inv:∀ a:K,a≠0->a*inv a=1
 one_ne:(1:K)≠0
theorem Fld.domain {K:Type} [Fld K] {a b:K} (h:a*b=0):a=0∨b=0:=by
 by_cases e:a=0
 ·exact .inl e
 ·refine .inr ?_;have:=congrArg (Fld.inv a*·) h;simp only[mul_zero,<- Crg.mul_assoc]at this;rw[Crg.mul_comm (Fld.inv a),Fld.mul_inv a e,one_mul]at this;exact this
structure Pol (K : Type) [Crg K] where
 f:Nat->K
 fin:∃ n,∀ j,n<=j->f j=0
namespace Pol
section
variable {K:Type} [Crg K]
theorem ext {a b:Pol K} (h:∀ i,a.f i=b.f i):a=b:=by
 cases a;cases b;congr;exact funext h
def cv (f g:Nat->K) (k:Nat):K:=sm (fun i=>f i*g (k-i)) (k+1)
theorem cv_comm (f g:Nat->K) (k:Nat):cv f g k=cv g f k:=by
 unfold cv;rw[sm_rev];refine sm_congr fun i hi=>?_;show f (k-i)*g (k-(k-i))=g i*f (k-i);rw[show k-(k-i)=i by omega,Crg.mul_comm]
theorem cv_add (f g h:Nat->K) (k:Nat):cv f (fun i=>g i+h i) k=cv f g k+cv f h k:=by
 unfold cv;rw[<- sm_add];exact sm_congr fun i _=>mul_add _ _ _
theorem cv_assoc (f g h:Nat->K) (k:Nat):cv (cv f g) h k=cv f (cv g h) k:=by
 unfold cv;have e1:sm (fun i=>sm (fun i_1=>f i_1*g (i-i_1)) (i+1)*h (k-i)) (k+1)=sm (fun i=>sm (fun j=>f j*g (i-j)*h (k-(j+(i-j)))) (i+1)) (k+1):=by
  refine sm_congr fun i _=>?_;rw[sm_mul];refine sm_congr fun j hj=>?_;rw[show j+(i-j)=i by omega]
 rw[e1,sm_tri (fun j l=>f j*g l*h (k-(j+l)))];refine sm_congr fun j hj=>?_;rw[mul_sm,show k+1-j=k-j+1 by omega];refine sm_congr fun l hl=>?_;rw[Crg.mul_assoc,show k-(j+l)=k-j-l by omega]
theorem cv_fin {f g:Nat->K} {n m:Nat} (hf:∀ j,n<=j->f j=0) (hg:∀ j,m<=j->g j=0) (k:Nat) (hk:n+m-1<=k):cv f g k=0:=by
 refine z8 fun i hi=>?_;rcases Nat.lt_or_ge i n with h | h
 ·rw[hg (k-i) (by omega),mul_zero]
 ·rw[hf i h,zero_mul]
instance : Crg (Pol K) where
 zero:=⟨fun _=>0,0,fun _ _=>rfl⟩
 one:=⟨fun i=>if i=0 then 1 else 0,1,fun j hj=>if_neg (by omega)⟩
 add a b:=⟨fun i=>a.f i+b.f i,by
  obtain⟨n,hn⟩:=a.fin;obtain⟨m,hm⟩:=b.fin;exact⟨max n m,fun j hj=>by rw[hn j (by omega),hm j (by omega),Crg.add_zero]⟩⟩
 mul a b:=⟨cv a.f b.f,by
  obtain⟨n,hn⟩:=a.fin;obtain⟨m,hm⟩:=b.fin;exact⟨n+m,fun j hj=>cv_fin hn hm j (by omega)⟩⟩
 neg a:=⟨fun i => -a.f i,by
  obtain⟨n,hn⟩:=a.fin;exact⟨n,fun j hj=>by rw[hn j hj,neg_zero]⟩⟩
 sub a b:=⟨fun i=>a.f i-b.f i,by
  obtain⟨n,hn⟩:=a.fin;obtain⟨m,hm⟩:=b.fin;exact⟨max n m,fun j hj=>by rw[hn j (by omega),hm j (by omega),sub_self]⟩⟩
 add_assoc a b c:=ext fun i=>Crg.add_assoc _ _ _
 add_comm a b:=ext fun i=>Crg.add_comm _ _
 add_zero a:=ext fun i=>Crg.add_zero _
 add_neg a:=ext fun i=>Crg.add_neg _
 sub_def a b:=ext fun i=>Crg.sub_def _ _
 mul_assoc a b c:=ext fun i=>cv_assoc _ _ _ _
 mul_comm a b:=ext fun i=>cv_comm _ _ _
 mul_one a:=ext fun i=>by
  show cv a.f (fun i=>if i=0 then 1 else 0) i=a.f i;unfold cv;rw[x7 (k:=i) (by omega) fun j hj hne=>by dsimp only;rw[if_neg (by omega),mul_zero]];dsimp only;rw[if_pos (Nat.sub_self i),Crg.mul_one]
 mul_add a b c:=ext fun i=>cv_add _ _ _ _
theorem f_add (a b:Pol K) (i:Nat):(a+b).f i=a.f i+b.f i:=rfl
theorem f_sub (a b:Pol K) (i:Nat):(a-b).f i=a.f i-b.f i:=rfl
theorem f_one (i:Nat):(1:Pol K).f i=if i=0 then 1 else 0:=rfl
def mn (c:K) (k:Nat):Pol K:=⟨fun i=>if i=k then c else 0,k+1,fun j hj=>if_neg (by omega)⟩
abbrev C (c:K):Pol K:=mn c 0
theorem mn_mul (c:K) (k:Nat) (a:Pol K) (i:Nat):(mn c k*a).f i=if k<=i then c*a.f (i-k)else 0:=by
 show cv (fun i=>if i=k then c else 0) a.f i=_;unfold cv;split
 ·rw[x7 (k:=k) (by omega) fun j hj hne=>by dsimp only;rw[if_neg hne,zero_mul]];dsimp only;rw[if_pos rfl]
 ·exact z8 fun j hj=>by dsimp only;rw[if_neg (by omega),zero_mul]
theorem C_mul (c:K) (a:Pol K) (i:Nat):(C c*a).f i=c*a.f i:=by rw[mn_mul,if_pos (Nat.zero_le _)];rfl
open Classical in
theorem ex_len (a:Pol K):∃ n,(∀ j,n<=j->a.f j=0)/\∀ k,n=k+1->a.f k≠0:=by
 obtain⟨n,hn⟩:=a.fin;induction n with
 | zero=>exact⟨0,hn,fun k h=>by omega⟩
 | succ n ih =>
  by_cases h:a.f n=0
  ·exact ih fun j hj=>by
    by_cases e:j=n
    ·rw[e,h]
    ·exact hn j (by omega)
  ·exact⟨n+1,hn,fun k hk=>by rw[show k=n by omega];exact h⟩
noncomputable def len (a:Pol K):Nat:=(ex_len a).choose
theorem len_out (a:Pol K):∀ j,a.len<=j->a.f j=0:=(ex_len a).choose_spec.1
theorem len_top (a:Pol K) {k:Nat} (h:a.len=k+1):a.f k≠0:=(ex_len a).choose_spec.2 k h
theorem Uq {a:Pol K} {n:Nat} (h:∀ j,n<=j->a.f j=0):a.len<=n:=by
 rcases Nat.lt_or_ge n a.len with h1 | h1
 ·exact absurd (h (a.len-1) (by omega)) (len_top a (by omega))
 ·exact h1
theorem len_eq {a:Pol K} {k:Nat} (h:∀ j,k+1<=j->a.f j=0) (ht:a.f k≠0):a.len=k+1:=by
 have h1:=Uq h;rcases Nat.lt_or_ge k a.len with h2 | h2
 ·omega
 ·exact absurd (len_out a k h2) ht
theorem len_zero:(0:Pol K).len=0:=Nat.le_zero.1 (Uq fun _ _=>rfl)
theorem len_nil {a:Pol K} (h:a.len=0):a=0:=ext fun i=>len_out a i (by omega)
theorem yz {a:Pol K} (h:a≠0):0<a.len:=Nat.pos_of_ne_zero fun e=>h (len_nil e)
theorem ne_of_len {a:Pol K} (h:0<a.len):a≠0:=fun e=>by rw[e,len_zero]at h;omega
theorem len_add (a b:Pol K):(a+b).len<=max a.len b.len:=Uq fun j hj=>by
 rw[f_add,len_out a j (by omega),len_out b j (by omega),Crg.add_zero]
theorem len_sub (a b:Pol K):(a-b).len<=max a.len b.len:=Uq fun j hj=>by
 rw[f_sub,len_out a j (by omega),len_out b j (by omega),sub_self]
theorem len_mn (c:K) (k:Nat):(mn c k:Pol K).len<=k+1:=Uq fun j hj=>if_neg (by omega)
theorem top_mul {a b:Pol K} {k l:Nat} (ha:a.len<=k+1) (hb:b.len<=l+1):(a*b).f (k+l)=a.f k*b.f l:=by
 show cv a.f b.f (k+l)=_;unfold cv;rw[x7 (k:=k) (by omega) fun j hj hne=>?_]
 ·rw[show k+l-k=l by omega]
 ·rcases Nat.lt_or_ge j k with h | h
  ·rw[len_out b (k+l-j) (by omega),mul_zero]
  ·rw[len_out a j (by omega),zero_mul]
noncomputable def lead (a:Pol K):K:=a.f (a.len-1)
theorem lead_ne {a:Pol K} (h:a≠0):a.lead≠0:=len_top a (by have:=yz h;omega)
def Monic (a:Pol K):Prop:=0<a.len/\a.lead=1
def Dvs (a b:Pol K):Prop:=∃ c,b=a*c
theorem Dvs.one (a:Pol K):Dvs 1 a:=⟨a,(one_mul a).symm⟩
end
section
variable {K:Type} [Fld K]
theorem len_mul {a b:Pol K} (ha:a≠0) (hb:b≠0):(a*b).len+1=a.len+b.len:=by
 have h1:=yz ha;have h2:=yz hb;have e:=len_eq (a:=a*b) (k:=a.len-1+(b.len-1)) (fun j hj=>cv_fin (len_out a) (len_out b) j (by omega)) (by
  rw[top_mul (by omega) (by omega)];intro h;rcases Fld.domain h with h | h
  ·exact lead_ne ha h
  ·exact lead_ne hb h)
 omega
theorem domain {a b:Pol K} (h:a*b=0):a=0∨b=0:=by
 by_cases ha:a=0
 ·exact .inl ha
 by_cases hb:b=0
 ·exact .inr hb
 have:=len_mul ha hb;have:=yz ha;have:=yz hb;rw[h,len_zero]at *;omega
theorem cancel {a b c:Pol K} (ha:a≠0) (h:a*b=a*c):b=c:=by
 have:a*(b-c)=0:=by
  rw[show a*(b-c)=a*b-a*c from RE.eq [a,b,c] (t0*(t1-t2)) (t0*t1-t0*t2) rfl,h,sub_self]
 exact sub_eq_zero.1 ((domain this).resolve_left ha)
theorem lead_mul {a b:Pol K} (ha:a≠0) (hb:b≠0):(a*b).lead=a.lead*b.lead:=by
 have h:=len_mul ha hb;have h1:=yz ha;have h2:=yz hb;unfold lead;rw[show(a*b).len-1=a.len-1+(b.len-1)by omega,top_mul (by omega) (by omega)]
theorem Dvs.len {a b:Pol K} (h:Dvs a b) (hb:b≠0):a.len<=b.len:=by
 obtain⟨c,rfl⟩:=h;have ha:a≠0:=fun e=>hb (by rw[e,zero_mul]);have hc:c≠0:=fun e=>hb (by rw[e,mul_zero]);have:=len_mul ha hc;have:=yz hc;omega
theorem one_ne:(1:Pol K)≠0:=fun e=>Fld.one_ne (K:=K) (by
 have:=congrArg (fun a:Pol K=>a.f 0) e;exact this)
theorem len_C {c:K} (h:c≠0):(C c:Pol K).len=1:=len_eq (fun j hj=>if_neg (by omega)) (by show(if 0=0 then c else 0)≠0;rw[if_pos rfl];exact h)
theorem len_one:(1:Pol K).len=1:=len_C Fld.one_ne
theorem divide (b : Pol K) (hb : b ≠ 0) : ∀ (n : Nat) (a : Pol K), a.len ≤ n → ∃ q r, a = q * b + r ∧ r.len < b.len
 | 0,a,h=>⟨0,a,by rw[zero_mul,zero_add],by have:=yz hb;omega⟩
 | n+1,a,h=>by
  rcases Nat.lt_or_ge a.len b.len with h1 | h1
  ·exact⟨0,a,by rw[zero_mul,zero_add],h1⟩
  have h2:=yz hb;have hl:=lead_ne hb;let m:Pol K:=mn (a.lead*Fld.inv b.lead) (a.len-b.len);have hs:(a-m*b).len<=n:=Uq fun j hj=>by
   rw[f_sub,mn_mul];rcases Nat.lt_or_ge j a.len with h3 | h3
   ·have e:j=a.len-1:=by omega
    rw[if_pos (by omega),show j-(a.len-b.len)=b.len-1 by omega];show a.f j-a.lead*Fld.inv b.lead*b.lead=0;rw[Crg.mul_assoc,Crg.mul_comm (Fld.inv b.lead),Fld.mul_inv _ hl,Crg.mul_one,e];exact sub_self _
   ·rw[len_out a j h3,if_pos (by omega),len_out b _ (by omega),mul_zero,sub_self]
  obtain⟨q,r,e,hr⟩:=divide b hb n (a-m*b) hs;refine⟨m+q,r,?_,hr⟩;have:a=m*b+(a-m*b):=RE.eq [a,m,b] t0 (t1*t2+(t0-t1*t2)) rfl;rw[this,e];exact RE.eq [m,b,q,r] (t0*t1+(t2*t1+t3)) ((t0+t2)*t1+t3) rfl
theorem div_ex (a:Pol K) {b:Pol K} (hb:b≠0):∃ q r,a=q*b+r/\r.len<b.len:=divide b hb a.len a (Nat.le_refl _)
end
end Pol
end Go.Proofs.YtkmbnldginonbaaGreat
namespace Go.Proofs.YtkmbnldginonbaaGreat
open Crg
class Prm (p : Int) : Prop where
 two:2<=p
 inv:∀ a:Int,a%p≠0->∃ b:Int,(a*b)%p=1
namespace Zp
section
variable {p:Int} [hp:Prm p]
end
end Zp
namespace Crg
section
variable {α:Type} [Crg α]
def nc : Nat → α
 | 0=>0
 | n+1=>nc n+1
theorem nc_add (m : Nat) : ∀ n, (nc (m + n) : α) = nc m + nc n
 | 0=>(add_zero _).symm
 | n+1=>by
  show nc (m+n)+1=nc m+(nc n+1);rw[nc_add m n,add_assoc]
end
end Crg
end Go.Proofs.YtkmbnldginonbaaGreat
namespace Go.Proofs.YtkmbnldginonbaaGreat
open Crg
namespace Pol
section
variable {K:Type} [Crg K]
def X:Pol K:=mn 1 1
theorem C_zero:(C 0:Pol K)=0:=ext fun i=>by
 show(if i=0 then(0:K)else 0)=0;split <;> rfl
end
end Pol
section
variable {p:Int} [hp:Prm p]
end
section
variable {p:Int} [hp:Prm p] {α:Type} [Crg α]
end
section
variable {p:Int} [hp:Prm p]
open Pol
end
/-! ### Roots modulo an irreducible polynomial -/
section
variable {R:Type} [Crg R]
def hv (y : R) : List R → R
 | []=>0
 | c :: l=>c+y*hv y l
end
end Go.Proofs.YtkmbnldginonbaaGreat
namespace Go.Proofs.YtkmbnldginonbaaGreat
open Crg Pol
section
variable {p:Int} [hp:Prm p]
end
/-! ### Remainders -/
namespace Pol
section
variable {K:Type} [Fld K]
noncomputable def rm (a m:Pol K):Pol K:=open Classical in if h:m=0 then a else(div_ex a h).choose_spec.choose
end
end Pol
section
variable {p:Int} [hp:Prm p]
end
end Go.Proofs.YtkmbnldginonbaaGreat
namespace Go.Proofs.YtkmbnldginonbaaGreat
open Crg
namespace Pol
section
variable {K:Type} [Crg K]
def dv (a:Pol K):Pol K:=⟨fun i=>nc (i+1)*a.f (i+1),a.len,fun j hj=>by rw[len_out a _ (by omega),mul_zero]⟩
end
section
variable {K:Type} [Fld K]
end
end Pol
open Pol
section
variable {p:Int} [hp:Prm p]
end
end Go.Proofs.YtkmbnldginonbaaGreat
namespace Go.Proofs.YtkmbnldginonbaaGreat
open Crg
structure Hm {A B : Type} [Crg A] [Crg B] (φ : A → B) : Prop where
 add:∀ a b,φ (a+b)=φ a+φ b
 mul:∀ a b,φ (a*b)=φ a*φ b
 one:φ 1=1
namespace Hm
variable {A B:Type} [Crg A] [Crg B] {φ:A->B}
theorem zero (h:Hm φ):φ 0=0:=by
 have:=h.add 0 0;rw[add_zero]at this;exact wW (a:=φ 0) (by rw[add_zero];exact this.symm)
theorem neg (h:Hm φ) (a:A):φ (-a) = -φ a:=VY (by rw[<- h.add,add_neg,h.zero])
theorem sub (h:Hm φ) (a b:A):φ (a-b)=φ a-φ b:=by rw[sub_def,h.add,h.neg,<- sub_def]
end Hm
namespace Pol
section
variable {A B:Type} [Crg A] [Crg B]
noncomputable def ev (φ:A->B) (y:B) (a:Pol A):B:=sm (fun i=>φ (a.f i)*pw y i) a.len
noncomputable def up (a:Pol A):Pol (Pol A):=ev (fun c=>C (C c)) X a
end
section
variable {R:Type} [Crg R]
end
end Pol
end Go.Proofs.YtkmbnldginonbaaGreat
namespace Go.Proofs.YtkmbnldginonbaaGreat
open Crg Pol
namespace Mx
section
variable {R:Type} {n:Nat} {A B C:Nat->Nat->R}
def Eqn (n:Nat) (A B:Nat->Nat->R):Prop:=∀ i j,i<n->j<n->A i j=B i j
theorem Eqn.refl (A:Nat->Nat->R):Eqn n A A:=fun _ _ _ _=>rfl
theorem Eqn.symm (h:Eqn n A B):Eqn n B A:=fun i j hi hj=>(h i j hi hj).symm
theorem Eqn.trans (h:Eqn n A B) (k:Eqn n B C):Eqn n A C:=fun i j hi hj=>(h i j hi hj).trans (k i j hi hj)
end
section
variable {R:Type} [Crg R]
def mm (n:Nat) (A B:Nat->Nat->R) (i j:Nat):R:=sm (fun a=>A i a*B a j) n
def mI (i j:Nat):R:=if i=j then 1 else 0
def mpw (n : Nat) (A : Nat → Nat → R) : Nat → Nat → Nat → R
 | 0=>mI
 | k+1=>mm n A (mpw n A k)
def tr (n:Nat) (A:Nat->Nat->R):R:=sm (fun i=>A i i) n
variable {n:Nat} {A B C D:Nat->Nat->R}
theorem xB (n:Nat) (A B C:Nat->Nat->R) (i j:Nat):mm n (mm n A B) C i j=mm n A (mm n B C) i j:=by
 show sm (fun b=>sm (fun a=>A i a*B a b) n*C b j) n=sm (fun a=>A i a*sm (fun b=>B a b*C b j) n) n;rw[sm_congr fun b _=>sm_mul (C b j) (fun a=>A i a*B a b) n,sm_congr fun a _=>mul_sm (A i a) (fun b=>B a b*C b j) n,sm_swap (fun b a=>A i a*B a b*C b j) n n];exact sm_congr fun a _=>sm_congr fun b _=>mul_assoc _ _ _
theorem xq (h:Eqn n A C) (k:Eqn n B D):Eqn n (mm n A B) (mm n C D):=fun i j hi hj=>sm_congr fun a ha=>by rw[h i a hi ha,k a j ha hj]
theorem I_mm {i:Nat} (hi:i<n) (j:Nat):mm n mI A i j=A i j:=by
 show sm (fun a=>(if i=a then 1 else 0)*A a j) n=_;rw[x7 hi fun a _ ha=>by rw[if_neg fun e=>ha e.symm,zero_mul],if_pos rfl,one_mul]
theorem mm_I {j:Nat} (hj:j<n) (i:Nat):mm n A mI i j=A i j:=by
 show sm (fun a=>A i a*(if a=j then 1 else 0)) n=_;rw[x7 hj fun a _ ha=>by rw[if_neg ha,mul_zero],if_pos rfl,mul_one]
theorem tr_congr (h:Eqn n A B):tr n A=tr n B:=sm_congr fun i hi=>h i i hi hi
theorem tr_mm (n:Nat) (A B:Nat->Nat->R):tr n (mm n A B)=tr n (mm n B A):=by
 show sm (fun i=>sm (fun a=>A i a*B a i) n) n=sm (fun i=>sm (fun a=>B i a*A a i) n) n;rw[sm_swap (fun i a=>A i a*B a i) n n];exact sm_congr fun a _=>sm_congr fun b _=>mul_comm _ _
theorem mm_sm (f:Nat->Nat->Nat->R) (m i j:Nat):mm n A (fun a b=>sm (fun t=>f t a b) m) i j=sm (fun t=>mm n A (f t) i j) m:=by
 show sm (fun a=>A i a*sm (fun t=>f t a j) m) n=_;rw[sm_congr fun a _=>mul_sm (A i a) (fun t=>f t a j) m];exact sm_swap (fun a t=>A i a*f t a j) m n
theorem mm_sc (c:R) (i j:Nat):mm n A (fun a b=>c*B a b) i j=c*mm n A B i j:=by
 show sm (fun a=>A i a*(c*B a j)) n=c*sm (fun a=>A i a*B a j) n;rw[mul_sm];exact sm_congr fun a _=>mul_left_comm _ _ _
theorem tr_sm (f:Nat->Nat->Nat->R) (m:Nat):tr n (fun a b=>sm (fun t=>f t a b) m)=sm (fun t=>tr n (f t)) m:=sm_swap (fun i t=>f t i i) m n
theorem tr_sc (c:R):tr n (fun a b=>c*A a b)=c*tr n A:=(mul_sm c (fun i=>A i i) n).symm
theorem nc_sm : ∀ n : Nat, sm (fun _ => (1 : R)) n = nc n
 | 0=>rfl
 | n+1=>by
  show sm (fun _=>(1:R)) n+1=nc n+1;rw[nc_sm n]
theorem tr_I (n:Nat):tr n (mI:Nat->Nat->R)=nc n:=by
 rw[<- nc_sm];exact sm_congr fun i _=>if_pos rfl
theorem UB {T : Nat → Nat → R} (h : Eqn n (mm n A T) (mm n T B)) : ∀ k, Eqn n (mm n (mpw n A k) T) (mm n T (mpw n B k))
 | 0=>fun i j hi hj=>by rw[show mpw n A 0=mI from rfl,show mpw n B 0=mI from rfl,I_mm hi,mm_I hj]
 | k+1=>by
  have e1:Eqn n (mm n (mpw n A (k+1)) T) (mm n A (mm n T (mpw n B k))):=fun i j hi hj=>by
   show mm n (mm n A (mpw n A k)) T i j=_;rw[xB];exact xq (Eqn.refl A) (UB h k) i j hi hj
  have e2:Eqn n (mm n A (mm n T (mpw n B k))) (mm n (mm n T B) (mpw n B k)):=fun i j hi hj=>by
   rw[<- xB];exact xq h (Eqn.refl _) i j hi hj
  exact(e1.trans e2).trans fun i j _ _=>xB n T B _ i j
theorem tr_link {T S:Nat->Nat->R} (h:Eqn n (mm n A T) (mm n T B)) (h1:Eqn n (mm n T S) mI) (h2:Eqn n (mm n S T) mI) (k:Nat):tr n (mpw n B k)=tr n (mpw n A k):=by
 have e1:Eqn n (mpw n B k) (mm n S (mm n T (mpw n B k))):=fun i j hi hj=>by
  rw[<- xB,xq h2 (Eqn.refl _) i j hi hj,I_mm hi]
 have e2:Eqn n (mm n S (mm n T (mpw n B k))) (mm n S (mm n (mpw n A k) T)):=xq (Eqn.refl _) (UB h k).symm;rw[tr_congr (e1.trans e2),tr_mm];refine tr_congr fun i j hi hj=>?_;rw[xB,xq (Eqn.refl _) h1 i j hi hj,mm_I hj]
def cm (n:Nat) (c:Nat->R) (j i:Nat):R:=(if j=i+1 then 1 else 0)-(if i+1=n then c j else 0)
theorem cm_mm {c:Nat->R} {T:Nat->Nat->R} {j k:Nat} (hj:j<n):mm n (cm n c) T j k=(if 1<=j then T (j-1) k else 0)-c j*T (n-1) k:=by
 have e:∀ a,cm n c j a*T a k=(if j=a+1 then 1 else 0)*T a k + -((if a+1=n then c j else 0)*T a k):=fun a=>by
  show((if j=a+1 then 1 else 0)-(if a+1=n then c j else 0))*T a k=_;rw[sub_def,add_mul,neg_mul]
 show sm (fun a=>cm n c j a*T a k) n=_;rw[sm_congr fun a _=>e a,sm_add,sm_neg];have e2:sm (fun a=>(if a+1=n then c j else 0)*T a k) n=c j*T (n-1) k:=by
  rw[x7 (k:=n-1) (by omega) fun a _ ha=>by rw[if_neg (by omega),zero_mul],if_pos (by omega)]
 have e1:sm (fun a=>(if j=a+1 then 1 else 0)*T a k) n=if 1<=j then T (j-1) k else 0:=by
  split
  ·rw[x7 (k:=j-1) (by omega) fun a _ ha=>by rw[if_neg (by omega),zero_mul],if_pos (by omega),one_mul]
  ·exact z8 fun a _=>by rw[if_neg (by omega),zero_mul]
 rw[e1,e2,<- sub_def]
def gr (n : Nat) (c : Nat → R) : Nat → Nat → Nat → R
 | 0=>mI
 | r+1=>fun j i=>mm n (cm n c) (gr n c r) j i+c (n-1-r)*mI j i
def uu (n:Nat) (c:Nat->R) (r j i:Nat):R:=if i+r<n then(if i<=j then c (n-r+(j-i))else 0)else(if i+r-n<=j/\j<i then -c (j-(i+r-n))else 0)
theorem gr_eq {c : Nat → R} (h1 : c n = 1) (h0 : ∀ m, n < m → c m = 0) : ∀ r, r ≤ n → Eqn n (gr n c r) (uu n c r)
 | 0,_=>fun j i hj hi=>by
  show(if j=i then 1 else 0)=uu n c 0 j i;unfold uu;rw[if_pos (show i+0<n by omega)];by_cases e:j=i
  ·rw[if_pos e,if_pos (show i<=j by omega),show n-0+(j-i)=n by omega,h1]
  ·rw[if_neg e];split
   ·rw[h0 _ (by omega)]
   ·rfl
 | r+1,hr=>fun j i hj hi=>by
  have ih:=gr_eq h1 h0 r (by omega);show mm n (cm n c) (gr n c r) j i+c (n-1-r)*mI j i=_;rw[xq (Eqn.refl (cm n c)) ih j i hj hi,cm_mm hj];have eI:c (n-1-r)*mI j i=if j=i then c (n-1-r)else 0:=by
   unfold mI;split
   ·rw[mul_one]
   ·rw[mul_zero]
  rw[eI];unfold uu;rcases Nat.lt_or_ge (i+(r+1)) n with h | h
  ·-- the column is not yet wrapped
   rw[if_pos (show i+r<n by omega),if_pos (show i+r<n by omega),if_pos (show i+(r+1)<n by omega),if_pos (show i<=n-1 by omega),h0 (n-r+(n-1-i)) (by omega),mul_zero,sub_zero];rcases Nat.lt_trichotomy j i with h3 | h3 | h3
   ·rw[if_neg (show ¬ j=i by omega),add_zero,if_neg (show ¬ i<=j by omega)];split
    ·rw[if_neg (by omega)]
    ·rfl
   ·rw[if_pos h3,if_pos (show i<=j by omega),show n-(r+1)+(j-i)=n-1-r by omega];split
    ·rw[if_neg (by omega),zero_add]
    ·rw[zero_add]
   ·rw[if_neg (show ¬ j=i by omega),add_zero,if_pos (show 1<=j by omega),if_pos (show i<=j-1 by omega),if_pos (show i<=j by omega),show n-r+(j-1-i)=n-(r+1)+(j-i)by omega]
  ·rw[if_neg (show ¬ i+(r+1)<n by omega)];by_cases hk:i+r<n
   ·-- the column that wraps now
    rw[if_pos hk,if_pos hk,if_pos (show i<=n-1 by omega),show n-r+(n-1-i)=n by omega,h1,mul_one,show i+(r+1)-n=0 by omega,Nat.sub_zero];rcases Nat.lt_trichotomy j i with h3 | h3 | h3
    ·rw[if_neg (show ¬ j=i by omega),add_zero,if_pos (show 0<=j/\j<i by omega)];split
     ·rw[if_neg (by omega),sub_def,zero_add]
     ·rw[sub_def,zero_add]
    ·rw[if_pos h3,if_neg (show ¬(0<=j/\j<i)by omega),show n-1-r=j by omega];split
     ·rw[if_neg (by omega),sub_def,zero_add,yP]
     ·rw[sub_def,zero_add,yP]
    ·rw[if_neg (show ¬ j=i by omega),add_zero,if_neg (show ¬(0<=j/\j<i)by omega),if_pos (show 1<=j by omega),if_pos (show i<=j-1 by omega),show n-r+(j-1-i)=j by omega,sub_self]
   ·rw[if_neg hk,if_neg hk,if_neg (show ¬(i+r-n<=n-1/\n-1<i)by omega),mul_zero,sub_zero];rcases Nat.lt_trichotomy j i with h3 | h3 | h3
    ·rw[if_neg (show ¬ j=i by omega),add_zero];by_cases h4:i+(r+1)-n<=j/\j<i
     ·rw[if_pos h4,if_pos (show 1<=j by omega),if_pos (show i+r-n<=j-1/\j-1<i by omega),show j-1-(i+r-n)=j-(i+(r+1)-n)by omega]
     ·rw[if_neg h4];split
      ·rw[if_neg (by omega)]
      ·rfl
    ·rw[if_pos h3,if_neg (show ¬(i+(r+1)-n<=j/\j<i)by omega),if_pos (show 1<=j by omega),if_pos (show i+r-n<=j-1/\j-1<i by omega),show j-1-(i+r-n)=n-1-r by omega,yP]
    ·rw[if_neg (show ¬ j=i by omega),add_zero,if_neg (show ¬(i+(r+1)-n<=j/\j<i)by omega),if_pos (show 1<=j by omega),if_neg (by omega)]
theorem gr_sum {c : Nat → R} (h1 : c n = 1) : ∀ r, r ≤ n → Eqn n (gr n c r) fun a b => sm (fun t => c (n - r + t) * mpw n (cm n c) t a b) (r + 1)
 | 0,_=>fun i j hi hj=>by
  show mI i j=0+c (n-0+0)*mI i j;rw[Nat.sub_zero,Nat.add_zero,h1,zero_add,one_mul]
 | r+1,hr=>fun i j hi hj=>by
  show mm n (cm n c) (gr n c r) i j+c (n-1-r)*mI i j=sm (fun t=>c (n-(r+1)+t)*mpw n (cm n c) t i j) (r+1+1);rw[xq (Eqn.refl (cm n c)) (gr_sum h1 r (by omega)) i j hi hj,mm_sm,sm_head (fun t=>c (n-(r+1)+t)*mpw n (cm n c) t i j),show n-(r+1)+0=n-1-r by omega,add_comm];refine congrArg (c (n-1-r)*mI i j+·) ?_;refine sm_congr fun t ht=>?_;rw[mm_sc,show n-(r+1)+(t+1)=n-r+t by omega];rfl
theorem newton_cm {c:Nat->R} (h1:c n=1) (h0:∀ m,n<m->c m=0) {r:Nat} (hr:r<=n):sm (fun t=>c (n-r+t)*tr n (mpw n (cm n c) t)) (r+1)=nc (n-r)*c (n-r):=by
 have e1:sm (fun t=>c (n-r+t)*tr n (mpw n (cm n c) t)) (r+1)=tr n (gr n c r):=by
  rw[tr_congr (gr_sum h1 r hr),tr_sm];exact sm_congr fun t _=>(tr_sc _).symm
 rw[e1,tr_congr (gr_eq h1 h0 r hr)];show sm (fun i=>uu n c r i i) n=_;have e2:∀ i,i<n->uu n c r i i=if i<n-r then c (n-r)else 0:=fun i hi=>by
  unfold uu;by_cases h:i+r<n
  ·rw[if_pos h,if_pos (Nat.le_refl i),if_pos (show i<n-r by omega),Nat.sub_self,Nat.add_zero]
  ·rw[if_neg h,if_neg (show ¬(i+r-n<=i/\i<i)by omega),if_neg (show ¬ i<n-r by omega)]
 rw[sm_congr e2];have e3:sm (fun i=>if i<n-r then c (n-r)else 0) n=sm (fun i=>if i<n-r then c (n-r)else 0) (n-r):=Vw (fun i hi=>if_neg (by omega)) (by omega);rw[e3,sm_congr fun i hi=>if_pos hi,<- nc_sm,sm_mul];exact sm_congr fun i _=>(one_mul _).symm
theorem root_cm {c:Nat->R} (h1:c n=1) (h0:∀ m,n<m->c m=0):Eqn n (fun a b=>sm (fun t=>c t*mpw n (cm n c) t a b) (n+1)) fun _ _=>0:=fun i j hi hj=>by
 have h:=gr_sum h1 n (Nat.le_refl n) i j hi hj;rw[gr_eq h1 h0 n (Nat.le_refl n) i j hi hj]at h;have e:uu n c n i j=0:=by
  unfold uu;rw[if_neg (by omega),if_neg (by omega)]
 rw[e]at h;show sm (fun t=>c t*mpw n (cm n c) t i j) (n+1)=0;rw[h];exact sm_congr fun t _=>by rw[Nat.sub_self,Nat.zero_add]
end
end Mx
end Go.Proofs.YtkmbnldginonbaaGreat
namespace Go.Proofs.YtkmbnldginonbaaGreat
open Crg Pol
namespace Mx
section
variable {R:Type} [Crg R]
noncomputable def hps (W : Nat → Nat → R) : Nat → Nat → Pol R
 | 0=>fun _=>1
 | k+1=>fun i=>if i<=k then hps W k i else X*hps W k k-sm (fun i=>C (W i k)*hps W k i) (k+1)
noncomputable def hp (W:Nat->Nat->R) (k:Nat):Pol R:=hps W k k
variable {W:Nat->Nat->R} {n:Nat}
theorem hps_le (W : Nat → Nat → R) : ∀ {k i : Nat}, i ≤ k → hps W k i = hp W i
 | 0,i,h=>by
  obtain rfl:i=0:=by omega
  rfl
 | k+1,i,h=>by
  rcases Nat.lt_or_ge i (k+1)with h1 | h1
  ·show(if i<=k then hps W k i else _)=_;rw[if_pos (by omega),hps_le W (by omega)]
  ·obtain rfl:i=k+1:=by omega
   rfl
theorem hp_succ (W:Nat->Nat->R) (k:Nat):hp W (k+1)=X*hp W k-sm (fun i=>C (W i k)*hp W i) (k+1):=by
 show(if k+1<=k then hps W k (k+1)else X*hps W k k-sm (fun i=>C (W i k)*hps W k i) (k+1))=_;rw[if_neg (by omega)];show X*hp W k-_=_;rw[sm_congr fun i hi=>by rw[hps_le W (show i<=k by omega)]]
theorem sm_f (f : Nat → Pol R) (j : Nat) : ∀ m, (sm f m).f j = sm (fun i => (f i).f j) m
 | 0=>rfl
 | m+1=>by
  show(sm f m+f m).f j=sm (fun i=>(f i).f j) m+(f m).f j;rw[f_add,sm_f f j m]
theorem X_mul_at (a:Pol R) (j:Nat):(X*a).f j=if 1<=j then a.f (j-1)else 0:=by
 show(mn 1 1*a).f j=_;rw[mn_mul];split
 ·rw[one_mul]
 ·rfl
theorem hp_at (W:Nat->Nat->R) (k j:Nat):(hp W (k+1)).f j=(if 1<=j then(hp W k).f (j-1)else 0)-sm (fun i=>W i k*(hp W i).f j) (k+1):=by
 rw[hp_succ,f_sub,X_mul_at,sm_f];rw[sm_congr fun i _=>C_mul (W i k) (hp W i) j]
theorem jQ (W:Nat->Nat->R):∀ k,(∀ j,k<j->(hp W k).f j=0)/\(hp W k).f k=1:=by
 have key:∀ m k,k<=m->(∀ j,k<j->(hp W k).f j=0)/\(hp W k).f k=1:=by
  intro m;induction m with
  | zero =>
   intro k hk;obtain rfl:k=0:=by omega
   exact⟨fun j hj=>(f_one j).trans (if_neg (by omega)),rfl⟩
  | succ m ih =>
   intro k hk;rcases Nat.lt_or_ge k (m+1)with h | h
   ·exact ih k (by omega)
   ·obtain rfl:k=m+1:=by omega
    refine⟨fun j hj=>?_,?_⟩
    ·rw[hp_at,if_pos (by omega),(ih m (Nat.le_refl m)).1 _ (by omega),z8 fun i hi=>by rw[(ih i (by omega)).1 j (by omega),mul_zero],sub_self]
    ·rw[hp_at,if_pos (by omega),Nat.add_sub_cancel,(ih m (Nat.le_refl m)).2,z8 fun i hi=>by rw[(ih i (by omega)).1 _ (by omega),mul_zero],sub_zero]
 exact fun k=>key k k (Nat.le_refl k)
def um (W:Nat->Nat->R) (i k:Nat):R:=if i=k+1 then 1 else if i<=k then W i k else 0
theorem um_sum (f:Nat->R) {k:Nat} (hk:k<n):sm (fun a=>f a*um W a k) n=sm (fun a=>f a*W a k) (k+1)+(if k+1<n then f (k+1)else 0):=by
 have e0:sm (fun a=>f a*um W a k) (k+1)=sm (fun a=>f a*W a k) (k+1):=sm_congr fun a ha=>by
  unfold um;rw[if_neg (by omega),if_pos (by omega)]
 split
 ·next h =>
  rw[Vw (n:=k+2) (fun a ha=>by
   unfold um;rw[if_neg (by omega),if_neg (by omega),mul_zero]) (by omega)]
  show sm (fun a=>f a*um W a k) (k+1)+f (k+1)*um W (k+1) k=_;rw[e0,show um W (k+1) k=1 from if_pos rfl,mul_one]
 ·obtain rfl:n=k+1:=by omega
  rw[e0,add_zero]
noncomputable def tm (W:Nat->Nat->R) (j k:Nat):R:=(hp W k).f j
theorem tm_link (W:Nat->Nat->R) (n:Nat):Eqn n (mm n (cm n (hp W n).f) (tm W)) (mm n (tm W) (um W)):=fun j k hj hk=>by
 rw[cm_mm hj];show _=sm (fun a=>tm W j a*um W a k) n;rw[um_sum (fun a=>tm W j a) hk];have e:(if 1<=j then tm W (j-1) k else 0)=tm W j (k+1)+sm (fun a=>tm W j a*W a k) (k+1):=by
  show _=(hp W (k+1)).f j+_;rw[hp_at,sub_def,add_assoc,show sm (fun a=>tm W j a*W a k) (k+1)=sm (fun i=>W i k*(hp W i).f j) (k+1)from sm_congr fun i _=>mul_comm _ _,yP,add_zero];rfl
 rw[e];by_cases h:k+1<n
 ·rw[if_pos h,show tm W (n-1) k=0 from(jQ W k).1 _ (by omega),mul_zero,sub_zero,add_comm]
 ·obtain rfl:n=k+1:=by omega
  rw[if_neg h,add_zero,show tm W (k+1-1) k=1 from(jQ W k).2,mul_one];show tm W j (k+1)+_-tm W j (k+1)=_;rw[sub_def,add_comm (tm W j (k+1)),add_assoc,add_neg,add_zero]
def sv (n:Nat) (W:Nat->Nat->R) (j k:Nat):R:=mpw n (um W) k j 0
theorem cm_e {c : Nat → R} : ∀ k, k < n → ∀ j, j < n → mpw n (cm n c) k j 0 = if j = k then 1 else 0
 | 0,_,j,_=>rfl
 | k+1,hk,j,hj=>by
  show mm n (cm n c) (mpw n (cm n c) k) j 0=_;rw[cm_mm hj,cm_e k (by omega) (n-1) (by omega),if_neg (show ¬ n-1=k by omega),mul_zero,sub_zero];split
  ·rw[cm_e k (by omega) (j-1) (by omega)];by_cases e:j=k+1
   ·rw[if_pos (by omega),if_pos e]
   ·rw[if_neg (by omega),if_neg e]
  ·rw[if_neg (by omega)]
theorem tm_sv (W:Nat->Nat->R) (n:Nat):Eqn n (mm n (tm W) (sv n W)) mI:=fun j k hj hk=>by
 show mm n (tm W) (mpw n (um W) k) j 0=_;rw[<- UB (tm_link W n) k j 0 hj (by omega)];show sm (fun a=>mpw n (cm n (hp W n).f) k j a*(hp W 0).f a) n=_;rw[x7 (k:=0) (by omega) fun a _ ha=>by rw[(jQ W 0).1 a (by omega),mul_zero],(jQ W 0).2,mul_one,cm_e k hk j hj];rfl
theorem sv_tm (W:Nat->Nat->R) (n:Nat):∀ k,k<n->∀ j,j<n->mm n (sv n W) (tm W) j k=mI j k:=by
 have key:∀ m k,k<=m->k<n->∀ j,j<n->mm n (sv n W) (tm W) j k=mI j k:=by
  intro m;induction m with
  | zero =>
   intro k hk hn j hj;obtain rfl:k=0:=by omega
   show sm (fun a=>sv n W j a*(hp W 0).f a) n=_;rw[x7 (k:=0) hn fun a _ ha=>by rw[(jQ W 0).1 a (by omega),mul_zero],(jQ W 0).2,mul_one];rfl
  | succ m ih =>
   intro k hk hn j hj;rcases Nat.lt_or_ge k (m+1)with h | h
   ·exact ih k (by omega) hn j hj
   ·obtain rfl:k=m+1:=by omega
    -- the next polynomial: multiplied by x, less the sum
    have e1:mm n (sv n W) (tm W) j (m+1)=sm (fun a=>sv n W j a*(if 1<=a then tm W (a-1) m else 0)) n-sm (fun i=>W i m*mm n (sv n W) (tm W) j i) (m+1):=by
     have e2:∀ a,sv n W j a*tm W a (m+1)=sv n W j a*(if 1<=a then tm W (a-1) m else 0) + -(sm (fun i=>W i m*(sv n W j a*tm W a i)) (m+1)):=fun a=>by
      show sv n W j a*(hp W (m+1)).f a=_;rw[hp_at,sub_def,mul_add,mul_neg,mul_sm];refine congrArg (_ + -·) (sm_congr fun i _=>?_);exact mul_left_comm _ _ _
     show sm (fun a=>sv n W j a*tm W a (m+1)) n=_;rw[sm_congr fun a _=>e2 a,sm_add,sm_neg,<- sub_def,sm_swap (fun a i=>W i m*(sv n W j a*tm W a i)) (m+1) n];refine congrArg (_-·) (sm_congr fun i _=>?_);exact(mul_sm _ _ _).symm
    have e3:sm (fun a=>sv n W j a*(if 1<=a then tm W (a-1) m else 0)) n=mm n (um W) (fun x y=>mm n (sv n W) (tm W) x y) j m:=by
     obtain⟨q,rfl⟩:∃ q,n=q+1:=⟨n-1,by omega⟩;rw[sm_head,if_neg (by omega),mul_zero,zero_add];have e4:∀ a,sv (q+1) W j (a+1)*(if 1<=a+1 then tm W (a+1-1) m else 0)=mm (q+1) (um W) (sv (q+1) W) j a*tm W a m:=fun a=>by
      rw[if_pos (by omega),Nat.add_sub_cancel];rfl
     rw[sm_congr fun a _=>e4 a];show _=mm (q+1) (um W) (mm (q+1) (sv (q+1) W) (tm W)) j m;rw[<- xB];show _=sm (fun a=>mm (q+1) (um W) (sv (q+1) W) j a*tm W a m) q+mm (q+1) (um W) (sv (q+1) W) j q*tm W q m;rw[show tm W q m=0 from(jQ W m).1 q (by omega),mul_zero,add_zero]
    have e5:mm n (um W) (fun x y=>mm n (sv n W) (tm W) x y) j m=um W j m:=by
     show sm (fun a=>um W j a*mm n (sv n W) (tm W) a m) n=_;rw[sm_congr fun a ha=>by rw[ih m (Nat.le_refl m) (by omega) a ha]];exact mm_I (show m<n by omega) j
    have e6:sm (fun i=>W i m*mm n (sv n W) (tm W) j i) (m+1)=if j<=m then W j m else 0:=by
     rw[sm_congr fun i hi=>by rw[ih i (by omega) (by omega) j hj]];split
     ·rw[x7 (k:=j) (by omega) fun i _ hi=>by rw[show(mI j i:R)=0 from if_neg fun e=>hi e.symm,mul_zero],show(mI j j:R)=1 from if_pos rfl,mul_one]
     ·exact z8 fun i hi=>by rw[show(mI j i:R)=0 from if_neg (by omega),mul_zero]
    rw[e1,e3,e5,e6];unfold um mI;by_cases h1:j=m+1
    ·rw[if_pos h1,if_pos h1,if_neg (by omega),sub_zero]
    ·rw[if_neg h1,if_neg h1];exact sub_self _
 exact fun k=>key k k (Nat.le_refl k)
theorem newton_um (W:Nat->Nat->R) {n r:Nat} (hr:r<=n):sm (fun t=>(hp W n).f (n-r+t)*tr n (mpw n (um W) t)) (r+1)=nc (n-r)*(hp W n).f (n-r):=by
 rw[<- newton_cm (jQ W n).2 (jQ W n).1 hr];refine sm_congr fun t _=>?_;rw[tr_link (tm_link W n) (tm_sv W n) (fun i j hi hj=>sv_tm W n j hj i hi)]
theorem root_um (W:Nat->Nat->R) (n:Nat):Eqn n (fun a b=>sm (fun t=>(hp W n).f t*mpw n (um W) t a b) (n+1)) fun _ _=>0:=fun i j hi hj=>by
 have e1:Eqn n (mm n (tm W) fun a b=>sm (fun t=>(hp W n).f t*mpw n (um W) t a b) (n+1)) fun _ _=>0:=fun i j hi hj=>by
  rw[mm_sm];have e2:∀ t,mm n (tm W) (fun a b=>(hp W n).f t*mpw n (um W) t a b) i j=(hp W n).f t*mm n (mpw n (cm n (hp W n).f) t) (tm W) i j:=fun t=>by
   rw[mm_sc,UB (tm_link W n) t i j hi hj]
  rw[sm_congr fun t _=>e2 t];show sm (fun t=>(hp W n).f t*sm (fun a=>mpw n (cm n (hp W n).f) t i a*tm W a j) n) (n+1)=0;rw[sm_congr fun t _=>mul_sm _ _ _,sm_swap (fun t a=>(hp W n).f t*(mpw n (cm n (hp W n).f) t i a*tm W a j)) n (n+1)];refine z8 fun a ha=>?_;rw[sm_congr fun t _=>(mul_assoc ((hp W n).f t) (mpw n (cm n (hp W n).f) t i a) (tm W a j)).symm,<- sm_mul];have h:=root_cm (jQ W n).2 (jQ W n).1 i a hi ha;dsimp only at h;rw[h,zero_mul]
 have e3:=xq (Eqn.refl (sv n W)) e1 i j hi hj;rw[<- xB,xq (C:=mI) (fun a b ha hb=>sv_tm W n b hb a ha) (Eqn.refl _) i j hi hj,I_mm hi]at e3;exact e3.trans (z8 fun a _=>mul_zero _)
end
end Mx
end Go.Proofs.YtkmbnldginonbaaGreat
namespace Go.Proofs.YtkmbnldginonbaaGreat
open Crg Pol
namespace Mx
section
variable {R:Type} [Crg R]
def dd (H : Nat → Nat → R) (i : Nat) : Nat → R
 | 0=>1
 | k+1=>if i<=k then dd H i k*H (k+1) k else 1
theorem dd_self (H : Nat → Nat → R) : ∀ i, dd H i i = 1
 | 0=>rfl
 | i+1=>if_neg (by omega)
theorem Vk (H:Nat->Nat->R) {i k:Nat} (h:i<=k):dd H i (k+1)=dd H i k*H (k+1) k:=if_pos h
theorem dd_mul (H : Nat → Nat → R) {i : Nat} : ∀ {k : Nat}, i ≤ k → dd H 0 i * dd H i k = dd H 0 k
 | 0,h=>by
  obtain rfl:i=0:=by omega
  exact mul_one _
 | k+1,h=>by
  rcases Nat.lt_or_ge i (k+1)with h1 | h1
  ·rw[Vk H (show i<=k by omega),Vk H (Nat.zero_le k),<- mul_assoc,dd_mul H (show i<=k by omega)]
  ·obtain rfl:i=k+1:=by omega
   rw[dd_self,mul_one]
def wd (H:Nat->Nat->R) (i k:Nat):R:=dd H i k*H i k
def dg (H:Nat->Nat->R) (i j:Nat):R:=if i=j then dd H 0 i else 0
variable {n:Nat} {H:Nat->Nat->R}
def Hess (n:Nat) (H:Nat->Nat->R):Prop:=∀ i k,i<n->k+1<i->H i k=0
theorem dg_link (h:Hess n H):Eqn n (mm n H (dg H)) (mm n (dg H) (um (wd H))):=fun i k hi hk=>by
 show sm (fun a=>H i a*(if a=k then dd H 0 a else 0)) n=sm (fun a=>(if i=a then dd H 0 i else 0)*um (wd H) a k) n;rw[x7 hk fun a _ ha=>by rw[if_neg ha,mul_zero],if_pos rfl,x7 hi fun a _ ha=>by rw[if_neg fun e=>ha e.symm,zero_mul],if_pos rfl];unfold um wd;by_cases h1:i=k+1
 ·subst h1;rw[if_pos rfl,mul_one,Vk H (Nat.zero_le k),mul_comm]
 ·rw[if_neg h1];by_cases h2:i<=k
  ·rw[if_pos h2,<- mul_assoc,dd_mul H h2,mul_comm]
  ·rw[if_neg h2,mul_zero,h i k hi (by omega),zero_mul]
theorem dg_pow (h:Hess n H) (t:Nat) {i k:Nat} (hi:i<n) (hk:k<n):mpw n H t i k*dd H 0 k=dd H 0 i*mpw n (um (wd H)) t i k:=by
 have e:=UB (dg_link h) t i k hi hk;change sm (fun a=>mpw n H t i a*(if a=k then dd H 0 a else 0)) n=sm (fun a=>(if i=a then dd H 0 i else 0)*mpw n (um (wd H)) t a k) n at e;rwa [x7 hk fun a _ ha=>by rw[if_neg ha,mul_zero],if_pos rfl,x7 hi fun a _ ha=>by rw[if_neg fun e=>ha e.symm,zero_mul],if_pos rfl]at e
/-! Maps. -/
variable {S:Type} [Crg S] {φ:R->S}
theorem sm_map (h : Hm φ) (f : Nat → R) : ∀ m, φ (sm f m) = sm (fun i => φ (f i)) m
 | 0=>h.zero
 | m+1=>by
  show φ (sm f m+f m)=_;rw[h.add,sm_map h f m];rfl
theorem nc_map (h : Hm φ) : ∀ m, φ (nc m) = nc m
 | 0=>h.zero
 | m+1=>by
  show φ (nc m+1)=nc m+1;rw[h.add,nc_map h m,h.one]
theorem mpw_map (h : Hm φ) (n : Nat) (H : Nat → Nat → R) : ∀ t i j, φ (mpw n H t i j) = mpw n (fun a b => φ (H a b)) t i j
 | 0,i,j=>by
  show φ (if i=j then 1 else 0)=if i=j then 1 else 0
  split
  ·exact h.one
  ·exact h.zero
 | t+1,i,j=>by
  show φ (sm (fun a=>H i a*mpw n H t a j) n)=sm (fun a=>φ (H i a)*mpw n (fun a b=>φ (H a b)) t a j) n;rw[sm_map h];exact sm_congr fun a _=>by rw[h.mul,mpw_map h n H t a j]
theorem tr_map (h:Hm φ) (n:Nat) (H:Nat->Nat->R) (t:Nat):φ (tr n (mpw n H t))=tr n (mpw n (fun a b=>φ (H a b)) t):=by
 show φ (sm (fun i=>mpw n H t i i) n)=_;rw[sm_map h];exact sm_congr fun i _=>mpw_map h n H t i i
theorem dd_map (h : Hm φ) (H : Nat → Nat → R) (i : Nat) : ∀ k, φ (dd H i k) = dd (fun a b => φ (H a b)) i k
 | 0=>h.one
 | k+1=>by
  show φ (if i<=k then dd H i k*H (k+1) k else 1)=if i<=k then dd (fun a b=>φ (H a b)) i k*φ (H (k+1) k)else 1
  split
  ·rw[h.mul,dd_map h H i k]
  ·exact h.one
theorem hp_map (h:Hm φ) (W:Nat->Nat->R) (k j:Nat):φ ((hp W k).f j)=(hp (fun a b=>φ (W a b)) k).f j:=by
 have key:∀ m k,k<=m->∀ j,φ ((hp W k).f j)=(hp (fun a b=>φ (W a b)) k).f j:=by
  intro m;induction m with
  | zero =>
   intro k hk j;obtain rfl:k=0:=by omega
   show φ ((1:Pol R).f j)=(1:Pol S).f j;rw[f_one,f_one];split
   ·exact h.one
   ·exact h.zero
  | succ m ih =>
   intro k hk j;rcases Nat.lt_or_ge k (m+1)with h1 | h1
   ·exact ih k (by omega) j
   ·obtain rfl:k=m+1:=by omega
    rw[hp_at,hp_at,h.sub,sm_map h];have e1:φ (if 1<=j then(hp W m).f (j-1)else 0)=if 1<=j then(hp (fun a b=>φ (W a b)) m).f (j-1)else 0:=by
     split
     ·exact ih m (Nat.le_refl m) _
     ·exact h.zero
    rw[e1,sm_congr fun i hi=>by rw[h.mul,ih i (by omega) j]]
 exact key k k (Nat.le_refl k) j
end
section
variable {K:Type} [Fld K] {n:Nat} {H:Nat->Nat->K}
theorem at0_hm : Hm (fun a : Pol K => a.f 0) where
 add _ _:=rfl
 mul a b:=by
  show 0+a.f 0*b.f (0-0)=_;rw[zero_add]
 one:=rfl
noncomputable def ht (H:Nat->Nat->K) (i k:Nat):Pol K:=C (H i k)+(if i=k+1 then X else 0)
theorem ht_at (H:Nat->Nat->K):(fun i k=>(ht H i k).f 0)=H:=by
 funext i k;show(C (H i k):Pol K).f 0+(if i=k+1 then X else 0:Pol K).f 0=_;have e:(if i=k+1 then X else 0:Pol K).f 0=0:=by
  split
  ·show(if(0:Nat)=1 then(1:K)else 0)=0;exact if_neg (by decide)
  ·rfl
 rw[e,add_zero];show(if(0:Nat)=0 then H i k else 0)=H i k;exact if_pos rfl
theorem ht_hess (h:Hess n H):Hess n (ht H):=fun i k hi hk=>by
 show C (H i k)+(if i=k+1 then X else 0)=0;rw[h i k hi hk,if_neg (by omega),C_zero,add_zero]
theorem ht_ne (H : Nat → Nat → K) : ∀ k, dd (ht H) 0 k ≠ 0
 | 0=>Pol.one_ne
 | k+1=>fun e=>by
  rw[Vk _ (Nat.zero_le k)]at e;rcases Pol.domain e with e | e
  ·exact ht_ne H k e
  ·have e1:(ht H (k+1) k).f 1=0:=by rw[e];rfl
   change (C (H (k+1) k):Pol K).f 1+(if k+1=k+1 then X else 0:Pol K).f 1=0 at e1;have e2:(C (H (k+1) k):Pol K).f 1=0:=by
    show(if(1:Nat)=0 then H (k+1) k else 0)=0;exact if_neg (by decide)
   rw[if_pos rfl,e2,zero_add]at e1;exact Fld.one_ne (K:=K) e1
theorem wd_at (H:Nat->Nat->K):(fun i k=>(wd (ht H) i k).f 0)=wd H:=by
 funext i k;show(dd (ht H) i k*ht H i k).f 0=dd H i k*H i k;rw[at0_hm.mul,dd_map (φ:=fun a:Pol K=>a.f 0) at0_hm (ht H) i k,ht_at,congrFun (congrFun (ht_at H) i) k]
theorem tr_um (h:Hess n H) (t:Nat):tr n (mpw n (um (wd (ht H))) t)=tr n (mpw n (ht H) t):=sm_congr fun i hi=>by
 have e:=dg_pow (ht_hess h) t hi hi;rw[mul_comm]at e;exact(Pol.cancel (ht_ne H i) e).symm
theorem newton_hess (h:Hess n H) {r:Nat} (hr:r<=n):sm (fun t=>(hp (wd H) n).f (n-r+t)*tr n (mpw n H t)) (r+1)=nc (n-r)*(hp (wd H) n).f (n-r):=by
 have e:=congrArg (fun a:Pol K=>a.f 0) (newton_um (wd (ht H)) hr);rw[sm_map (φ:=fun a:Pol K=>a.f 0) at0_hm,at0_hm.mul,nc_map (φ:=fun a:Pol K=>a.f 0) at0_hm,hp_map (φ:=fun a:Pol K=>a.f 0) at0_hm,wd_at]at e;rw[<- e];refine sm_congr fun t _=>?_;rw[tr_um h,at0_hm.mul,hp_map (φ:=fun a:Pol K=>a.f 0) at0_hm,wd_at,tr_map (φ:=fun a:Pol K=>a.f 0) at0_hm,ht_at]
theorem root_hess (h:Hess n H):Eqn n (fun a b=>sm (fun t=>(hp (wd H) n).f t*mpw n H t a b) (n+1)) fun _ _=>0:=fun i k hi hk=>by
 have e:=root_um (wd (ht H)) n i k hi hk;dsimp only at e;have e1:sm (fun t=>(hp (wd (ht H)) n).f t*mpw n (ht H) t i k) (n+1)*dd (ht H) 0 k=0:=by
  rw[sm_mul,sm_congr fun t _=>by rw[mul_assoc,dg_pow (ht_hess h) t hi hk,mul_left_comm],<- mul_sm,e,mul_zero]
 have e2:=(Pol.domain e1).resolve_right (ht_ne H k);have e3:=congrArg (fun a:Pol K=>a.f 0) e2;rw[sm_map (φ:=fun a:Pol K=>a.f 0) at0_hm]at e3;show sm (fun t=>(hp (wd H) n).f t*mpw n H t i k) (n+1)=0;refine Eq.trans (sm_congr fun t _=>?_) e3;rw[at0_hm.mul,hp_map (φ:=fun a:Pol K=>a.f 0) at0_hm,wd_at,mpw_map (φ:=fun a:Pol K=>a.f 0) at0_hm,ht_at]
end
end Mx
end Go.Proofs.YtkmbnldginonbaaGreat
namespace Go.Proofs.YtkmbnldginonbaaGreat
open Crg Pol
namespace Mx
section
variable {R:Type} [Crg R] {n:Nat} {A B D:Nat->Nat->R}
def Sim (n:Nat) (A B:Nat->Nat->R):Prop:=∃ E F,Eqn n (mm n E F) mI/\Eqn n (mm n F E) mI/\Eqn n (mm n A E) (mm n E B)
theorem Sim.of_eq (h:Eqn n A B):Sim n A B:=⟨mI,mI,fun _ j _ hj=>mm_I hj _,fun _ j _ hj=>mm_I hj _,fun i j hi hj=>by rw[mm_I hj,I_mm hi];exact h i j hi hj⟩
theorem Sim.trans (h:Sim n A B) (k:Sim n B D):Sim n A D:=by
 obtain⟨E,F,h1,h2,h3⟩:=h;obtain⟨G,J,k1,k2,k3⟩:=k;refine⟨mm n E G,mm n J F,fun i j hi hj=>?_,fun i j hi hj=>?_,fun i j hi hj=>?_⟩
 ·rw[xB,xq (Eqn.refl E) (D:=F) (fun a b ha hb=>by rw[<- xB,xq k1 (Eqn.refl F) a b ha hb,I_mm ha]) i j hi hj,h1 i j hi hj]
 ·rw[xB,xq (Eqn.refl J) (D:=G) (fun a b ha hb=>by rw[<- xB,xq h2 (Eqn.refl G) a b ha hb,I_mm ha]) i j hi hj,k2 i j hi hj]
 ·rw[<- xB,xq h3 (Eqn.refl G) i j hi hj,xB,xq (Eqn.refl E) k3 i j hi hj,xB]
theorem Sim.tr (h:Sim n A B) (k:Nat):tr n (mpw n B k)=tr n (mpw n A k):=by
 obtain⟨E,F,h1,h2,h3⟩:=h;exact tr_link h3 h1 h2 k
theorem Sim.root (h:Sim n A B) {c:Nat->R} {m:Nat} (hr:Eqn n (fun a b=>sm (fun t=>c t*mpw n B t a b) m) fun _ _=>0):Eqn n (fun a b=>sm (fun t=>c t*mpw n A t a b) m) fun _ _=>0:=by
 obtain⟨E,F,h1,h2,h3⟩:=h;have e1:Eqn n (mm n (fun a b=>sm (fun t=>c t*mpw n A t a b) m) E) fun _ _=>0:=fun i j hi hj=>by
  have e2:mm n (fun a b=>sm (fun t=>c t*mpw n A t a b) m) E i j=mm n E (fun a b=>sm (fun t=>c t*mpw n B t a b) m) i j:=by
   rw[mm_sm];show sm (fun a=>sm (fun t=>c t*mpw n A t i a) m*E a j) n=_;rw[sm_congr fun a _=>sm_mul (E a j) (fun t=>c t*mpw n A t i a) m,sm_swap (fun a t=>c t*mpw n A t i a*E a j) m n];refine sm_congr fun t _=>?_;rw[mm_sc,<- UB h3 t i j hi hj];show _=c t*sm (fun a=>mpw n A t i a*E a j) n;rw[mul_sm];exact sm_congr fun a _=>mul_assoc _ _ _
  rw[e2];refine(xq (Eqn.refl E) hr i j hi hj).trans ?_;exact z8 fun a _=>mul_zero _
 intro i j hi hj;have e3:=xq e1 (Eqn.refl F) i j hi hj;rw[xB,xq (Eqn.refl _) h1 i j hi hj,mm_I hj]at e3;refine e3.trans (z8 fun a _=>zero_mul _)
def xch (s:Nat->Nat) (A:Nat->Nat->R) (i j:Nat):R:=A (s i) (s j)
theorem Sim.xch {s:Nat->Nat} (h1:∀ i,i<n->s i<n) (h2:∀ i,i<n->s (s i)=i) (A:Nat->Nat->R):Sim n A (xch s A):=by
 have e1:∀(B:Nat->Nat->R) (i j:Nat),i<n->j<n->mm n (fun a b=>if a=s b then 1 else 0) B i j=B (s i) j:=fun B i j hi _=>by
  show sm (fun a=>(if i=s a then 1 else 0)*B a j) n=_;rw[x7 (k:=s i) (h1 i hi) fun a ha hne=>by rw[if_neg fun e=>hne (by rw[e,h2 a ha]),zero_mul],if_pos (h2 i hi).symm,one_mul]
 have e2:∀(B:Nat->Nat->R) (i j:Nat),i<n->j<n->mm n B (fun a b=>if a=s b then 1 else 0) i j=B i (s j):=fun B i j _ hj=>by
  show sm (fun a=>B i a*(if a=s j then 1 else 0)) n=_;rw[x7 (k:=s j) (h1 j hj) fun a _ hne=>by rw[if_neg hne,mul_zero],if_pos rfl,mul_one]
 have e3:Eqn n (mm n (fun a b=>if a=s b then(1:R)else 0) (fun a b=>if a=s b then 1 else 0)) mI:=fun i j hi hj=>by
  rw[e1 _ i j hi hj];show(if s i=s j then 1 else 0)=if i=j then 1 else 0
  by_cases e:i=j
  ·rw[e,if_pos rfl,if_pos rfl]
  ·rw[if_neg e,if_neg fun h=>e (by rw[<- h2 i hi,h,h2 j hj])]
 refine⟨_,_,e3,e3,fun i j hi hj=>?_⟩;rw[e2 _ i j hi hj,e1 _ i j hi hj];show A i (s j)=A (s (s i)) (s j);rw[h2 i hi]
def rca (u:R) (i m:Nat) (A:Nat->Nat->R) (a b:Nat):R:=(if a=i then A a b-u*A m b else A a b)+(if b=m then u*(if a=i then A a i-u*A m i else A a i)else 0)
theorem Sim.add {i m:Nat} (hi:i<n) (hm:m<n) (hne:i≠m) (u:R) (A:Nat->Nat->R):Sim n A (rca u i m A):=by
 have el:∀(u:R) (B:Nat->Nat->R) (a b:Nat),a<n->b<n->mm n (fun a b=>mI a b+(if a=i/\b=m then u else 0)) B a b=B a b+(if a=i then u*B m b else 0):=fun u B a b ha hb=>by
  have e:∀ c,(mI a c+(if a=i/\c=m then u else 0))*B c b=mI a c*B c b+(if a=i/\c=m then u else 0)*B c b:=fun c=>add_mul _ _ _;show sm (fun c=>(mI a c+(if a=i/\c=m then u else 0))*B c b) n=_;rw[sm_congr fun c _=>e c,sm_add];refine congr (congrArg HAdd.hAdd (I_mm ha b)) ?_;split
  ·next h=>rw[x7 hm fun c _ hc=>by rw[if_neg fun e=>hc e.2,zero_mul],if_pos ⟨h,rfl⟩]
  ·next h=>exact z8 fun c _=>by rw[if_neg fun e=>h e.1,zero_mul]
 have er:∀(u:R) (B:Nat->Nat->R) (a b:Nat),a<n->b<n->mm n B (fun a b=>mI a b+(if a=i/\b=m then u else 0)) a b=B a b+(if b=m then B a i*u else 0):=fun u B a b ha hb=>by
  have e:∀ c,B a c*(mI c b+(if c=i/\b=m then u else 0))=B a c*mI c b+B a c*(if c=i/\b=m then u else 0):=fun c=>mul_add _ _ _;show sm (fun c=>B a c*(mI c b+(if c=i/\b=m then u else 0))) n=_;rw[sm_congr fun c _=>e c,sm_add];refine congr (congrArg HAdd.hAdd (mm_I hb a)) ?_;split
  ·next h=>rw[x7 hi fun c _ hc=>by rw[if_neg fun e=>hc e.1,mul_zero],if_pos ⟨rfl,h⟩]
  ·next h=>exact z8 fun c _=>by rw[if_neg fun e=>h e.2,mul_zero]
 have ei:∀ u v:R,u+v=0->Eqn n (mm n (fun a b=>mI a b+(if a=i/\b=m then u else 0)) (fun a b=>mI a b+(if a=i/\b=m then v else 0))) mI:=fun u v huv a b ha hb=>by
  rw[el _ _ a b ha hb];have e1:(mI m b+(if m=i/\b=m then v else 0):R)=mI m b:=by rw[if_neg fun e=>hne e.1.symm,add_zero]
  rw[e1,add_assoc];have e2:(if a=i/\b=m then v else 0)+(if a=i then u*mI m b else 0)=(0:R):=by
   by_cases h1:a=i
   ·rw[if_pos h1];by_cases h2:b=m
    ·rw[if_pos ⟨h1,h2⟩,show(mI m b:R)=1 from if_pos h2.symm,mul_one,add_comm,huv]
    ·rw[if_neg fun e=>h2 e.2,show(mI m b:R)=0 from if_neg fun e=>h2 e.symm,mul_zero,add_zero]
   ·rw[if_neg h1,if_neg fun e=>h1 e.1,add_zero]
  rw[e2,add_zero]
 refine⟨_,_,ei u (-u) (add_neg u),ei (-u) u (yP u),fun a b ha hb=>?_⟩;rw[er _ _ a b ha hb,el _ _ a b ha hb];unfold rca;rw[if_neg (show ¬ m=i from fun e=>hne e.symm)];by_cases h1:a=i
 ·rw[if_pos h1,if_pos h1,if_pos h1,h1,if_neg (show ¬ m=i from fun e=>hne e.symm)];by_cases h2:b=m
  ·rw[if_pos h2,if_pos h2,if_pos h2];exact RE.eq [A i b,A i i,u,A m b,A m i] (t0+t1*t2) (t0-t2*t3+t2*(t1-t2*t4)+t2*(t3+t2*t4)) rfl
  ·rw[if_neg h2,if_neg h2,if_neg h2];exact RE.eq [A i b,u,A m b] (t0+0) (t0-t1*t2+0+t1*(t2+0)) rfl
 ·rw[if_neg h1,if_neg h1,if_neg h1,add_zero];split
  ·rw[mul_comm]
  ·rfl
end
end Mx
instance : Fld Rat where
 add_assoc:=Rat.add_assoc
 add_comm:=Rat.add_comm
 add_zero:=Rat.add_zero
 add_neg:=Rat.add_neg_cancel
 sub_def:=Rat.sub_eq_add_neg
 mul_assoc:=Rat.mul_assoc
 mul_comm:=Rat.mul_comm
 mul_one:=Rat.mul_one
 mul_add:=Rat.mul_add
 inv:=Rat.inv
 mul_inv:=fun a h=>Rat.mul_inv_cancel a h
 one_ne:=by decide
theorem nc_rat : ∀ m : Nat, (nc m : Rat) = (m : Rat)
 | 0=>rfl
 | m+1=>by
  show nc m+1=((m+1:Nat):Rat);rw[nc_rat m];exact(Rat.natCast_add m 1).symm
end Go.Proofs.YtkmbnldginonbaaGreat
namespace Go.Proofs.YtkmbnldginonbaaGreat
open Crg Pol
namespace Mx
section
variable {R:Type} [Crg R] {n:Nat} {A:Nat->Nat->R} {c:Nat->R}
theorem mpw_add (A:Nat->Nat->R) (a b:Nat):Eqn n (mm n (mpw n A a) (mpw n A b)) (mpw n A (a+b)):=by
 induction a with
 | zero =>
  intro i j hi hj;rw[Nat.zero_add];exact I_mm hi j
 | succ a ih =>
  intro i j hi hj;rw[show a+1+b=a+b+1 by omega];show mm n (mm n A (mpw n A a)) (mpw n A b) i j=mm n A (mpw n A (a+b)) i j;rw[xB];exact xq (Eqn.refl A) ih i j hi hj
theorem dd_left (H:Nat->Nat->R) {i k:Nat} (h:i<k):dd H i k=dd H (i+1) k*H (i+1) i:=by
 induction k with
 | zero=>omega
 | succ k ih =>
  rw[Vk H (show i<=k by omega)];rcases Nat.lt_or_ge i k with h1 | h1
  ·rw[ih h1,Vk H (show i+1<=k by omega),mul_assoc,mul_comm (H (i+1) i),<- mul_assoc]
  ·obtain rfl:i=k:=by omega
   rw[dd_self,dd_self]
structure Newt (n : Nat) (A : Nat → Nat → R) (c : Nat → R) : Prop where
 top:c n=1
 out:∀ m,n<m->c m=0
 id:∀ r,r<=n->sm (fun t=>c (n-r+t)*tr n (mpw n A t)) (r+1)=nc (n-r)*c (n-r)
 root:Eqn n (fun a b=>sm (fun t=>c t*mpw n A t a b) (n+1)) fun _ _=>0
def flm (n:Nat) (A:Nat->Nat->R) (c:Nat->R) (k i j:Nat):R:=sm (fun t=>c (n-k+t)*mpw n A t i j) (k+1)
theorem flm_zero (h1:c n=1) (i j:Nat):flm n A c 0 i j=mI i j:=by
 show 0+c (n-0+0)*mI i j=_;rw[Nat.sub_zero,Nat.add_zero,h1,zero_add,one_mul]
theorem flm_succ {k:Nat} (hk:k+1<=n) (i j:Nat):flm n A c (k+1) i j=mm n A (flm n A c k) i j+c (n-(k+1))*mI i j:=by
 show sm (fun t=>c (n-(k+1)+t)*mpw n A t i j) (k+1+1)=mm n A (fun a b=>sm (fun t=>c (n-k+t)*mpw n A t a b) (k+1)) i j+_;rw[mm_sm,sm_head (fun t=>c (n-(k+1)+t)*mpw n A t i j),add_comm,Nat.add_zero];refine congrArg (·+c (n-(k+1))*mI i j) (sm_congr fun t _=>?_);rw[mm_sc,show n-(k+1)+(t+1)=n-k+t by omega];rfl
theorem flm_tr (h:Newt n A c) {k:Nat} (hk:k+1<=n):tr n (mm n A (flm n A c k)) = -(nc (k+1)*c (n-(k+1))):=by
 have e1:tr n (mm n A (flm n A c k))=sm (fun t=>c (n-(k+1)+(t+1))*tr n (mpw n A (t+1))) (k+1):=by
  have e2:tr n (mm n A (flm n A c k))=tr n (fun a b=>sm (fun t=>c (n-k+t)*mpw n A (t+1) a b) (k+1)):=by
   refine congrArg (fun f=>sm f n) (funext fun i=>?_);show mm n A (fun a b=>sm (fun t=>c (n-k+t)*mpw n A t a b) (k+1)) i i=_;rw[mm_sm];exact sm_congr fun t _=>mm_sc _ _ _
  rw[e2,tr_sm];refine sm_congr fun t _=>?_;rw[tr_sc,show n-(k+1)+(t+1)=n-k+t by omega]
 have e3:=h.id (k+1) hk;rw[sm_head,Nat.add_zero,<- e1,show tr n (mpw n A 0)=nc n from tr_I n]at e3;have e4:(nc n:R)=nc (n-(k+1))+nc (k+1):=by rw[<- nc_add];congr 1;omega
 rw[e4]at e3;generalize tr n (mm n A (flm n A c k))=T at *;generalize c (n-(k+1))=x at *;generalize (nc (n-(k+1)):R)=a at *;have e5:T=x*(a+nc (k+1))+T-a*x + -(nc (k+1)*x):=RE.eq [T,x,a,nc (k+1)] t0 (t1*(t2+t3)+t0-t2*t1 + -(t3*t1)) rfl;rw[e3,sub_self,zero_add]at e5;exact e5
end
section
variable {K:Type} [Fld K] {n:Nat} {A H:Nat->Nat->K}
theorem Newt.of_hess (hs : Sim n A H) (hh : Hess n H) : Newt n A (hp (wd H) n).f where
 top:=(jQ (wd H) n).2
 out:=(jQ (wd H) n).1
 id r hr:=by
  rw[<- newton_hess hh hr];exact sm_congr fun t _=>by rw[hs.tr]
 root:=hs.root (root_hess hh)
end
end Mx
end Go.Proofs.YtkmbnldginonbaaGreat
namespace Go.Proofs.YtkmbnldginonbaaGreat
open Crg Pol
namespace Mx
section
variable {R:Type} [Crg R]
end
end Mx
end Go.Proofs.YtkmbnldginonbaaGreat
namespace Go.Proofs.YtkmbnldginonbaaGreat
open Crg Pol
namespace Mx
section
variable {K:Type} [Fld K] {n:Nat} {A:Nat->Nat->K}
noncomputable def evm (n:Nat) (A:Nat->Nat->K) (g:Pol K) (i j:Nat):K:=sm (fun t=>g.f t*mpw n A t i j) g.len
theorem Wk {g:Pol K} {N:Nat} (h:g.len<=N) (i j:Nat):evm n A g i j=sm (fun t=>g.f t*mpw n A t i j) N:=(Vw (fun t ht=>by rw[len_out g t ht,zero_mul]) h).symm
theorem evm_zero (i j:Nat):evm n A 0 i j=0:=by
 unfold evm;rw[len_zero];rfl
theorem evm_add (g h:Pol K) (i j:Nat):evm n A (g+h) i j=evm n A g i j+evm n A h i j:=by
 rw[Wk (len_add g h),Wk (Nat.le_max_left g.len h.len),Wk (Nat.le_max_right g.len h.len),<- sm_add];exact sm_congr fun t _=>by rw[f_add,add_mul]
theorem evm_mn (c:K) (k i j:Nat):evm n A (mn c k) i j=c*mpw n A k i j:=by
 rw[Wk (len_mn c k),x7 (k:=k) (by omega) fun t _ ht=>by rw[show(mn c k:Pol K).f t=0 from if_neg ht,zero_mul],show(mn c k:Pol K).f k=c from if_pos rfl]
theorem evm_shift (c:K) (k:Nat) (g:Pol K) {i j:Nat} (hi:i<n) (hj:j<n):evm n A (mn c k*g) i j=c*mm n (mpw n A k) (evm n A g) i j:=by
 have e:mm n (mpw n A k) (evm n A g) i j=sm (fun t=>mm n (mpw n A k) (fun a b=>g.f t*mpw n A t a b) i j) g.len:=mm_sm (fun t a b=>g.f t*mpw n A t a b) g.len i j;rw[Wk (N:=k+g.len) (Uq fun t ht=>by rw[mn_mul,if_pos (by omega),len_out g _ (by omega),mul_zero]),sm_split,z8 (n:=k) fun t ht=>by rw[mn_mul,if_neg (by omega),zero_mul],zero_add,e,mul_sm];refine sm_congr fun t _=>?_;rw[mn_mul,if_pos (by omega),show k+t-k=t by omega,mm_sc,mpw_add A k t i j hi hj,mul_assoc]
theorem mm_add (B C D:Nat->Nat->K) (i j:Nat):mm n (fun a b=>B a b+C a b) D i j=mm n B D i j+mm n C D i j:=by
 unfold mm;rw[<- sm_add];exact sm_congr fun a _=>add_mul _ _ _
theorem evm_mul (h : Pol K) : ∀ (N : Nat) (g : Pol K), g.len ≤ N → Eqn n (evm n A (g * h)) (mm n (evm n A g) (evm n A h))
 | 0,g,hg,i,j,_,_=>by
  obtain rfl:=len_nil (Nat.le_zero.1 hg);rw[zero_mul,evm_zero];exact(z8 fun a _=>by rw[evm_zero,zero_mul]).symm
 | N+1,g,hg,i,j,hi,hj=>by
  have e:g=(g-mn (g.f N) N)+mn (g.f N) N:=RE.eq [g,mn (g.f N) N] t0 (t0-t1+t1) rfl;have hl:(g-mn (g.f N) N).len<=N:=Uq fun t ht=>by
   rw[f_sub];rcases Nat.lt_or_ge N t with h1 | h1
   ·rw[len_out g t (by omega),show(mn (g.f N) N:Pol K).f t=0 from if_neg (by omega),sub_self]
   ·obtain rfl:t=N:=by omega
    rw[show(mn (g.f t) t:Pol K).f t=g.f t from if_pos rfl,sub_self]
  have k1:=evm_mul h N _ hl i j hi hj;generalize g.f N=c at *;generalize g-mn c N=g1 at *;subst e;rw[add_mul,evm_add,k1,evm_shift c N h hi hj];have e2:mm n (evm n A (g1+mn c N)) (evm n A h) i j=mm n (fun a b=>evm n A g1 a b+c*mpw n A N a b) (evm n A h) i j:=sm_congr fun a _=>by rw[evm_add,evm_mn]
  rw[e2,mm_add];congr 1;unfold mm;rw[mul_sm];exact sm_congr fun a _=>(mul_assoc _ _ _).symm
theorem hp_len (W:Nat->Nat->K) (n:Nat):(hp W n).len=n+1:=len_eq (fun j hj=>(jQ W n).1 j (by omega)) (by rw[(jQ W n).2];exact Fld.one_ne)
end
end Mx
end Go.Proofs.YtkmbnldginonbaaGreat
namespace Go.Proofs.YtkmbnldginonbaaGreat
open Crg Pol
namespace Mx
section
variable {K:Type} [Fld K]
def av (n : Nat) (A : Nat → Nat → K) (v : Nat → K) : Nat → Nat → K
 | 0=>v
 | r+1=>fun j=>sm (fun i=>av n A v r i*A i j) n
structure Kn (K : Type) where
 v:Nat->K
 p:Nat
 q:Nat->K
def rdst (s:(Nat->K) × (Nat->K)) (k:Kn K):(Nat->K) × (Nat->K):=(fun j=>s.1 j-s.1 k.p*k.v j,fun j=>s.2 j-k.q j*s.1 k.p)
def xpn (r j:Nat):K:=if j=r then 1 else 0
def rdw (n : Nat) (A : Nat → Nat → K) (v : Nat → K) (kn : Nat → Kn K) (r : Nat) : Nat → (Nat → K) × (Nat → K)
 | 0=>(av n A v r,xpn r)
 | i+1=>rdst (rdw n A v kn r i) (kn i)
theorem rdw_congr {n : Nat} {A : Nat → Nat → K} {v : Nat → K} {k l : Nat → Kn K} (r : Nat) : ∀ m, (∀ i, i < m → k i = l i) → rdw n A v k r m = rdw n A v l r m
 | 0,_=>rfl
 | m+1,h=>by
  show rdst (rdw n A v k r m) (k m)=rdst (rdw n A v l r m) (l m);rw[rdw_congr r m fun i hi=>h i (by omega),h m (by omega)]
theorem ex_kn (n:Nat) (A:Nat->Nat->K) (v:Nat->K) (mk:(Nat->K) × (Nat->K)->Kn K):∃ kn:Nat->Kn K,∀ r,kn r=mk (rdw n A v kn r r):=by
 let kf:Nat->Nat->Kn K:=fun r=>Nat.rec (fun _=>⟨fun _=>0,0,fun _=>0⟩) (fun r k i=>if i=r then mk (rdw n A v k r r)else k i) r;have h1:∀ r,kf (r+1) r=mk (rdw n A v (kf r) r r):=fun r=>if_pos rfl;have h2:∀ r i,i<r->kf r i=kf (i+1) i:=by
  intro r;induction r with
  | zero=>intro i hi;omega
  | succ r ih =>
   intro i hi;rcases Nat.lt_or_ge i r with h | h
   ·have e:kf (r+1) i=kf r i:=if_neg (by omega);rw[e,ih i h]
   ·rw[show i=r by omega]
 refine⟨fun i=>kf (i+1) i,fun r=>?_⟩;show kf (r+1) r=_;rw[h1,rdw_congr r r fun i hi=>h2 r i hi]
structure Kns (n : Nat) (A : Nat → Nat → K) (v : Nat → K) (R : Nat) (kn : Nat → Kn K) (b : Nat → K) : Prop where
 lt:∀ i,i<R->(kn i).p<n
 bw:∀ i,i<R->(rdw n A v kn i i).1 (kn i).p*b i=1
 hv:∀ i,i<R->∀ j,(kn i).v j=(rdw n A v kn i i).1 j*b i
 hq:∀ i,i<R->∀ j,(kn i).q j=(rdw n A v kn i i).2 j*b i
variable {n R:Nat} {A:Nat->Nat->K} {v:Nat->K} {kn:Nat->Kn K} {b:Nat->K}
def avl (n:Nat) (A:Nat->Nat->K) (v:Nat->K) (g:Nat->K) (N j:Nat):K:=sm (fun t=>g t*av n A v t j) N
structure Kg (n : Nat) (A : Nat → Nat → K) (v : Nat → K) (kn : Nat → Kn K) (i : Nat) : Prop where
 one:(kn i).v (kn i).p=1
 zer:∀ a,a<i->(kn i).v (kn a).p=0
 val:∀ j,(kn i).v j=avl n A v (kn i).q (i+1) j
 deg:∀ t,i<t->(kn i).q t=0
 top:(kn i).q i≠0
theorem rdw_inv {r : Nat} (h : ∀ i, i < r → Kg n A v kn i) : ∀ m, m ≤ r → (∀ a, a < m → (rdw n A v kn r m).1 (kn a).p = 0) ∧ (∀ j, (rdw n A v kn r m).1 j = avl n A v (rdw n A v kn r m).2 (r + 1) j) ∧ (∀ t, r < t → (rdw n A v kn r m).2 t = 0) ∧ (rdw n A v kn r m).2 r = 1
 | 0,_=>by
  refine⟨fun a ha=>absurd ha (Nat.not_lt_zero a),fun j=>?_,fun t ht=>if_neg (by omega),if_pos rfl⟩;show av n A v r j=sm (fun t=>xpn r t*av n A v t j) (r+1);rw[x7 (k:=r) (by omega) fun t _ ht=>by rw[show(xpn r t:K)=0 from if_neg ht,zero_mul],show(xpn r r:K)=1 from if_pos rfl,one_mul]
 | m+1,hm=>by
  obtain⟨h1,h2,h3,h4⟩:=rdw_inv h m (by omega);have g:=h m (by omega);generalize hs:rdw n A v kn r m=s at h1 h2 h3 h4;have e:rdw n A v kn r (m+1)=rdst s (kn m):=by rw[<- hs];rfl
  rw[e];refine⟨fun a ha=>?_,fun j=>?_,fun t ht=>?_,?_⟩
  ·show s.1 (kn a).p-s.1 (kn m).p*(kn m).v (kn a).p=0;rcases Nat.lt_or_ge a m with h | h
   ·rw[h1 a h,g.zer a h,mul_zero,sub_self]
   ·rw[show a=m by omega,g.one,Crg.mul_one,sub_self]
  ·show s.1 j-s.1 (kn m).p*(kn m).v j=sm (fun t=>(s.2 t-(kn m).q t*s.1 (kn m).p)*av n A v t j) (r+1);have e2:avl n A v (kn m).q (m+1) j=sm (fun t=>(kn m).q t*av n A v t j) (r+1):=(Vw (fun t ht=>by rw[g.deg t (by omega),zero_mul]) (by omega)).symm;rw[h2 j,g.val j,e2,sub_def];show sm (fun t=>s.2 t*av n A v t j) (r+1)+_=_;rw[mul_sm,<- sm_neg,<- sm_add];exact sm_congr fun t _=>RE.eq [s.2 t,av n A v t j,s.1 (kn m).p,(kn m).q t] (t0*t1 + -(t2*(t3*t1))) ((t0-t3*t2)*t1) rfl
  ·show s.2 t-(kn m).q t*s.1 (kn m).p=0;rw[h3 t ht,g.deg t (by omega),zero_mul,sub_self]
  ·show s.2 r-(kn m).q r*s.1 (kn m).p=1;rw[h4,g.deg r (by omega),zero_mul,sub_zero]
theorem avl_mul (g:Nat->K) (c:K) (N j:Nat):avl n A v (fun t=>g t*c) N j=avl n A v g N j*c:=by
 unfold avl;rw[sm_mul];exact sm_congr fun t _=>RE.eq [g t,c,av n A v t j] (t0*t1*t2) (t0*t2*t1) rfl
theorem Kns.all (h:Kns n A v R kn b):∀ i,i<R->Kg n A v kn i:=by
 intro i;induction i using Nat.strongRecOn with
 | ind i ih =>
  intro hi;obtain⟨h1,h2,h3,h4⟩:=rdw_inv (r:=i) (fun a ha=>ih a ha (by omega)) i (Nat.le_refl i);have hb:b i≠0:=fun e=>by
   have:=h.bw i hi;rw[e,mul_zero]at this;exact Fld.one_ne this.symm
  refine⟨?_,fun a ha=>?_,fun j=>?_,fun t ht=>?_,?_⟩
  ·rw[h.hv i hi,h.bw i hi]
  ·rw[h.hv i hi,h1 a ha,zero_mul]
  ·rw[h.hv i hi,h2 j,<- avl_mul];exact sm_congr fun t _=>by rw[h.hq i hi]
  ·rw[h.hq i hi,h3 t ht,zero_mul]
  ·rw[h.hq i hi,h4,one_mul];exact hb
theorem Kns.inv (h:Kns n A v R kn b) {r:Nat} (hr:r<=R) {m:Nat} (hm:m<=r):(∀ a,a<m->(rdw n A v kn r m).1 (kn a).p=0)/\(∀ j,(rdw n A v kn r m).1 j=avl n A v (rdw n A v kn r m).2 (r+1) j)/\(∀ t,r<t->(rdw n A v kn r m).2 t=0)/\(rdw n A v kn r m).2 r=1:=rdw_inv (fun i hi=>h.all i (by omega)) m hm
theorem avl_sub (g f:Nat->K) (N j:Nat):avl n A v (fun t=>g t-f t) N j=avl n A v g N j-avl n A v f N j:=by
 unfold avl;rw[sub_def,<- sm_neg,<- sm_add];exact sm_congr fun t _=>RE.eq [g t,f t,av n A v t j] ((t0-t1)*t2) (t0*t2 + -(t1*t2)) rfl
theorem avl_more {g:Nat->K} {N M:Nat} (hg:∀ t,N<=t->g t=0) (h:N<=M) (j:Nat):avl n A v g M j=avl n A v g N j:=Vw (fun t ht=>by rw[hg t ht,zero_mul]) h
theorem Kns.span (h : Kns n A v R kn b) : ∀ d, d ≤ R → ∀ g : Nat → K, (∀ t, d ≤ t → g t = 0) → ∃ e : Nat → K, ∀ j, avl n A v g d j = sm (fun a => e a * (kn a).v j) d
 | 0,_,_,_=>⟨fun _=>0,fun _=>rfl⟩
 | d+1,hd,g,hg=>by
  have k:=h.all d (by omega);obtain⟨z,hz⟩:∃ z,(kn d).q d*z=1:=⟨_,Fld.mul_inv _ k.top⟩;let g':Nat->K:=fun t=>g t-(kn d).q t*(g d*z);have hg':∀ t,d<=t->g' t=0:=fun t ht=>by
   show g t-(kn d).q t*(g d*z)=0;rcases Nat.eq_or_lt_of_le ht with e | e
   ·rw[<- e,show(kn d).q d*(g d*z)=g d*((kn d).q d*z)from RE.eq [(kn d).q d,g d,z] (t0*(t1*t2)) (t1*(t0*t2)) rfl,hz,Crg.mul_one,sub_self]
   ·rw[hg t e,k.deg t e,zero_mul,sub_self]
  obtain⟨e,he⟩:=h.span d (by omega) g' hg';refine⟨fun a=>if a=d then g d*z else e a,fun j=>?_⟩;have h1:avl n A v g' (d+1) j=avl n A v g' d j:=avl_more hg' (by omega) j;have h2:avl n A v g' (d+1) j=avl n A v g (d+1) j-(kn d).v j*(g d*z):=by
   show avl n A v (fun t=>g t-(kn d).q t*(g d*z)) (d+1) j=_;rw[avl_sub,avl_mul,k.val j]
  rw[h1,he j]at h2;show _=sm (fun a=>(if a=d then g d*z else e a)*(kn a).v j) d+(if d=d then g d*z else e d)*(kn d).v j;rw[if_pos rfl,sm_congr (g:=fun a=>e a*(kn a).v j) fun a ha=>by rw[if_neg (by omega)],h2,sub_def,Crg.mul_comm ((kn d).v j),Crg.add_assoc,yP,Crg.add_zero]
theorem Kns.least (h : Kns n A v R kn b) : ∀ d, d ≤ R → ∀ g : Nat → K, (∀ t, d ≤ t → g t = 0) → (∀ j, j < n → avl n A v g d j = 0) → ∀ t, g t = 0
 | 0,_,g,hg,_,t=>hg t (Nat.zero_le t)
 | d+1,hd,g,hg,h0,t=>by
  obtain⟨h1,h2,h3,h4⟩:=h.inv (r:=d) (by omega) (Nat.le_refl d);let g':Nat->K:=fun t=>g t-(rdw n A v kn d d).2 t*g d;have hg':∀ t,d<=t->g' t=0:=fun t ht=>by
   show g t-(rdw n A v kn d d).2 t*g d=0;rcases Nat.eq_or_lt_of_le ht with e | e
   ·rw[<- e,h4,one_mul,sub_self]
   ·rw[hg t e,h3 t e,zero_mul,sub_self]
  have e1:∀ j,j<n->avl n A v g' d j = -((rdw n A v kn d d).1 j*g d):=fun j hj=>by
   rw[<- avl_more hg' (show d<=d+1 by omega) j];show avl n A v (fun t=>g t-(rdw n A v kn d d).2 t*g d) (d+1) j=_;rw[avl_sub,avl_mul,h0 j hj,<- h2 j,sub_def,zero_add]
  obtain⟨e,he⟩:=h.span d (by omega) g' hg';have ez:∀ a,a<d->e a=0:=by
   intro a;induction a using Nat.strongRecOn with
   | ind a ih =>
    intro ha;have k:=e1 (kn a).p (h.lt a (by omega));rw[he,h1 a ha,zero_mul,neg_zero]at k;rw[x7 (k:=a) ha fun c hc hn=>by
     rcases Nat.lt_or_ge c a with q | q
     ·rw[ih c q (by omega),zero_mul]
     ·rw[(h.all c (by omega)).zer a (by omega),mul_zero],(h.all a (by omega)).one,Crg.mul_one]at k
    exact k
  have e2:avl n A v g' d (kn d).p=0:=by rw[he];exact z8 fun a ha=>by rw[ez a ha,zero_mul]
  rw[e1 _ (h.lt d (by omega))]at e2;have e3:g d=0:=by
   have e4:(rdw n A v kn d d).1 (kn d).p*g d=0:=by rw[<- neg_neg ((rdw n A v kn d d).1 (kn d).p*g d),e2,neg_zero]
   have e5:=h.bw d (by omega);have e6:g d=(rdw n A v kn d d).1 (kn d).p*b d*g d:=by rw[e5,one_mul]
   rw[e6,show(rdw n A v kn d d).1 (kn d).p*b d*g d=(rdw n A v kn d d).1 (kn d).p*g d*b d from RE.eq [(rdw n A v kn d d).1 (kn d).p,b d,g d] (t0*t1*t2) (t0*t2*t1) rfl,e4,zero_mul]
  have hg2:∀ t,d<=t->g t=0:=fun t ht=>by
   rcases Nat.eq_or_lt_of_le ht with e | e
   ·rw[<- e,e3]
   ·exact hg t e
  exact h.least d (by omega) g hg2 (fun j hj=>by rw[<- avl_more hg2 (show d<=d+1 by omega) j];exact h0 j hj) t
theorem inj_le : ∀ (n m : Nat) (f : Nat → Nat), (∀ i, i < m → f i < n) → (∀ i j, i < j → j < m → f i ≠ f j) → m ≤ n
 | 0,0,_,_,_=>Nat.le_refl 0
 | 0,m+1,f,h,_=>absurd (h 0 (by omega)) (Nat.not_lt_zero _)
 | n+1,0,_,_,_=>Nat.zero_le _
 | n+1,m+1,f,h,k=>by
  -- the place of the last one is filled by what stands at n
  have:=inj_le n m (fun i=>if f i=n then f m else f i) (fun i hi=>by
   show(if f i=n then f m else f i)<n;have a:=h i (by omega);have c:=h m (by omega);have d:=k i m hi (by omega);split <;> omega) fun i j hij hj=>by
   show(if f i=n then f m else f i)≠if f j=n then f m else f j
   have a:=k i j hij (by omega);have c:=k i m (by omega) (by omega);have d:=k j m hj (by omega);split <;> split <;> omega
  omega
theorem Kns.len (h:Kns n A v R kn b):R<=n:=inj_le n R (fun i=>(kn i).p) h.lt fun i j hij hj e=>by
 have e:(kn i).p=(kn j).p:=e;have h1:=(h.all j hj).zer i hij;rw[e,(h.all j hj).one]at h1;exact Fld.one_ne h1
end
end Mx
end Go.Proofs.YtkmbnldginonbaaGreat
namespace Go.Proofs.YtkmbnldginonbaaGreat
open Crg Pol
namespace Mx
section
variable {K:Type} [Fld K] {n:Nat} {A:Nat->Nat->K}
theorem av_mpw (v : Nat → K) : ∀ t j, j < n → av n A v t j = sm (fun i => v i * mpw n A t i j) n
 | 0,j,hj=>by
  rw[x7 (k:=j) hj fun i _ hi=>by rw[show(mpw n A 0 i j:K)=0 from if_neg hi,mul_zero],show(mpw n A 0 j j:K)=1 from if_pos rfl,Crg.mul_one];rfl
 | t+1,j,hj=>by
  show sm (fun i=>av n A v t i*A i j) n=_;rw[sm_congr (g:=fun i=>sm (fun a=>v a*mpw n A t a i*A i j) n) fun i hi=>by rw[av_mpw v t i hi,sm_mul],sm_swap];refine sm_congr fun a ha=>?_;have e:=mpw_add A t 1 a j ha hj;rw[<- e,show mm n (mpw n A t) (mpw n A 1) a j=mm n (mpw n A t) A a j from sm_congr fun i hi=>by rw[show mpw n A 1 i j=A i j from mm_I hj i]];unfold mm;rw[mul_sm];exact sm_congr fun i _=>Crg.mul_assoc _ _ _
noncomputable def evv (n:Nat) (A:Nat->Nat->K) (v:Nat->K) (g:Pol K) (j:Nat):K:=avl n A v g.f g.len j
theorem evv_of {v:Nat->K} {g:Pol K} {N:Nat} (h:g.len<=N) (j:Nat):avl n A v g.f N j=evv n A v g j:=avl_more (fun t ht=>len_out g t ht) h j
theorem WW (v:Nat->K) (g:Pol K) {j:Nat} (hj:j<n):evv n A v g j=sm (fun i=>v i*evm n A g i j) n:=by
 show sm (fun t=>g.f t*av n A v t j) g.len=_;rw[sm_congr (g:=fun t=>sm (fun i=>g.f t*(v i*mpw n A t i j)) n) fun t _=>by rw[av_mpw v t j hj,mul_sm],sm_swap];refine sm_congr fun i _=>?_;unfold evm;rw[mul_sm];exact sm_congr fun t _=>RE.eq [g.f t,v i,mpw n A t i j] (t0*(t1*t2)) (t1*(t0*t2)) rfl
theorem evv_mul (v:Nat->K) (g h:Pol K) {j:Nat} (hj:j<n):evv n A v (g*h) j=evv n A (evv n A v g) h j:=by
 rw[WW _ _ hj,WW _ _ hj,sm_congr (g:=fun i=>sm (fun a=>v i*evm n A g i a*evm n A h a j) n) fun i hi=>by
  rw[evm_mul h g.len g (Nat.le_refl _) i j hi hj];unfold mm;rw[mul_sm];exact sm_congr fun a _=>(Crg.mul_assoc _ _ _).symm,sm_swap]
 refine sm_congr fun a ha=>?_;rw[WW v g ha,sm_mul]
theorem evv_zero (h:Pol K) {v:Nat->K} (hv:∀ i,i<n->v i=0) {j:Nat} (hj:j<n):evv n A v h j=0:=by
 rw[WW _ _ hj];exact z8 fun i hi=>by rw[hv i hi,zero_mul]
theorem evv_sub (v:Nat->K) (g h:Pol K) (j:Nat):evv n A v (g-h) j=evv n A v g j-evv n A v h j:=by
 rw[<- evv_of (len_sub g h),<- evv_of (Nat.le_max_left g.len h.len),<- evv_of (Nat.le_max_right g.len h.len),<- avl_sub];rfl
structure Ann (n : Nat) (A : Nat → Nat → K) (v : Nat → K) (g : Pol K) : Prop where
 mon:Monic g
 zero:∀ j,j<n->evv n A v g j=0
 low:∀ h:Pol K,(∀ j,j<n->evv n A v h j=0)->Dvs g h
theorem Kns.ann {R:Nat} {v:Nat->K} {kn:Nat->Kn K} {b:Nat->K} (h:Kns n A v R kn b) (h0:∀ j,j<n->(rdw n A v kn R R).1 j=0):∃ g:Pol K,g.len=R+1/\(∀ j,g.f j=(rdw n A v kn R R).2 j)/\Ann n A v g:=by
 obtain⟨-,h2,h3,h4⟩:=h.inv (Nat.le_refl R) (Nat.le_refl R);let g:Pol K:=⟨(rdw n A v kn R R).2,R+1,fun j hj=>h3 j (by omega)⟩;have hl:g.len=R+1:=len_eq (fun j hj=>h3 j (by omega)) (by show(rdw n A v kn R R).2 R≠0;rw[h4];exact Fld.one_ne);have hz:∀ j,j<n->evv n A v g j=0:=fun j hj=>by
  rw[<- evv_of (Nat.le_of_eq hl) j];exact(h2 j).symm.trans (h0 j hj)
 have hm:Monic g:=⟨by omega,by show g.f (g.len-1)=1;rw[hl];exact h4⟩;refine⟨g,hl,fun _=>rfl,hm,hz,fun f hf=>?_⟩;obtain⟨q,r,e,hr⟩:=div_ex f (ne_of_len hm.1);have er:r=f-g*q:=by rw[e];exact RE.eq [q,g,r] t2 (t0*t1+t2-t1*t0) rfl
 have z:∀ j,j<n->evv n A v r j=0:=fun j hj=>by
  rw[er,evv_sub,hf j hj,evv_mul v g q hj,evv_zero q hz hj,sub_zero]
 have hr0:r=0:=Pol.ext fun t=>h.least R (Nat.le_refl R) r.f (fun t ht=>len_out r t (by omega)) (fun j hj=>by rw[evv_of (by omega) j];exact z j hj) t;exact⟨q,by rw[e,hr0,Crg.add_zero,Crg.mul_comm]⟩
structure Mn (n : Nat) (A : Nat → Nat → K) (m : Nat) (f : Pol K) : Prop where
 mon:Monic f
 zero:∀ i j,i<m->j<n->evm n A f i j=0
 low:∀ h:Pol K,(∀ i j,i<m->j<n->evm n A h i j=0)->Dvs f h
theorem Mn.start:Mn n A 0 (1:Pol K):=⟨⟨by rw[len_one];omega,by show(1:Pol K).f ((1:Pol K).len-1)=1;rw[len_one];rfl⟩,fun i _ hi=>absurd hi (Nat.not_lt_zero i),fun h _=>Dvs.one h⟩
theorem monic_mul {f g:Pol K} (hf:Monic f) (hg:Monic g):Monic (f*g):=by
 have h1:=ne_of_len hf.1;have h2:=ne_of_len hg.1;exact⟨yz fun e=>(domain e).elim h1 h2,by rw[lead_mul h1 h2,hf.2,hg.2,Crg.mul_one]⟩
theorem Mn.step {m : Nat} {f g : Pol K} (h : Mn n A m f) (hm : m < n) (hg : Ann n A (evm n A f m) g) : Mn n A (m + 1) (f * g) where
 mon:=monic_mul h.mon hg.mon
 zero i j hi hj:=by
  rw[evm_mul g f.len f (Nat.le_refl _) i j (by omega) hj];rcases Nat.lt_or_ge i m with e | e
  ·exact z8 fun a ha=>by rw[h.zero i a e ha,zero_mul]
  ·rw[show i=m by omega,<- hg.zero j hj,WW _ _ hj];rfl
 low q hq:=by
  obtain⟨r,hr⟩:=h.low q fun i j hi hj=>hq i j (by omega) hj;obtain⟨s,hs⟩:=hg.low r fun j hj=>by
   rw[WW _ _ hj,<- hq m j (by omega) hj,hr,evm_mul r f.len f (Nat.le_refl _) m j hm hj];rfl
  exact⟨s,by rw[hr,hs,Crg.mul_assoc]⟩
end
end Mx
end Go.Proofs.YtkmbnldginonbaaGreat
namespace Go.Proofs.YtkmbnldginonbaaGreat
open Crg Pol
namespace Mx
section
variable {K:Type} [Fld K]
abbrev Rw (K:Type):=Nat->K
def gcl (c:Nat) (p r:Rw K) (j:Nat):K:=r j + -(r c)*p j
def gpv (c:Nat) (r:Rw K) (j:Nat):K:=Fld.inv (r c)*r j
structure Gs (K : Type) where
 a:List (Rw K)
 o:List (Rw K × Nat)
open Classical in
noncomputable def wZ (c : Nat) : List (Rw K) → Option (List (Rw K) × Rw K × List (Rw K))
 | []=>none
 | r :: l=>if r c=0 then(wZ c l).map fun x=>(r :: x.1,x.2)else some ([],r,l)
noncomputable def gQ (c:Nat) (s:Gs K):Gs K:=match wZ c s.a with
 | none=>s
 | some (l,r,m)=>⟨(l++m).map (gcl c (gpv c r)),s.o.map (fun x=>(gcl c (gpv c r) x.1,x.2))++[(gpv c r,c)]⟩
noncomputable def zy (a : List (Rw K)) : Nat → Gs K
 | 0=>⟨a,[]⟩
 | c+1=>gQ c (zy a c)
def yW : List (Rw K × Nat) → Rw K → Rw K
 | [],v=>v
 | x :: l,v=>yW l (gcl x.2 x.1 v)
theorem gfind_none {c : Nat} : ∀ {l : List (Rw K)}, wZ c l = none → ∀ r ∈ l, r c = 0
 | [],_,r,hr=>absurd hr (by simp)
 | q :: l,h,r,hr=>by
  unfold wZ at h;by_cases e:q c=0
  ·rw[if_pos e]at h;rcases List.mem_cons.1 hr with e2 | e2
   ·rw[e2];exact e
   ·exact gfind_none (by simpa using h) r e2
  ·rw[if_neg e]at h;cases h
theorem kZ {c : Nat} : ∀ {l a m : List (Rw K)} {r : Rw K}, wZ c l = some (a, r, m) → l = a ++ r :: m ∧ r c ≠ 0 ∧ ∀ q ∈ a, q c = 0
 | [],_,_,_,h=>by cases h
 | q :: l,a,m,r,h=>by
  unfold wZ at h;by_cases e:q c=0
  ·rw[if_pos e]at h;rcases hx:wZ c l with _ | ⟨a',r',m'⟩
   ·rw[hx]at h;cases h
   ·rw[hx]at h;obtain⟨h1,h2,h3⟩:=kZ hx;cases h;refine⟨by rw[h1];rfl,h2,fun x hx=>?_⟩;rcases List.mem_cons.1 hx with e2 | e2
    ·rw[e2];exact e
    ·exact h3 x e2
  ·rw[if_neg e]at h;cases h;exact⟨rfl,e,fun x hx=>absurd hx (by simp)⟩
inductive Spn (l : List (Rw K)) : Rw K → Prop where
 | zero:Spn l fun _=>0
 | add (c:K) (r v:Rw K):r∈l->Spn l v->Spn l fun j=>v j+c*r j
theorem Spn.plus {l:List (Rw K)} {v w:Rw K} (h:Spn l v) (k:Spn l w):Spn l fun j=>v j+w j:=by
 induction k with
 | zero =>
  have e:(fun j=>v j+(0:K))=v:=funext fun j=>Crg.add_zero _;rw[e];exact h
 | add c r u hr _ ih =>
  have e:(fun j=>v j+(u j+c*r j))=fun j=>(v j+u j)+c*r j:=funext fun j=>(Crg.add_assoc _ _ _).symm;rw[e];exact .add c r _ hr ih
theorem Spn.smul {l:List (Rw K)} {v:Rw K} (c:K) (h:Spn l v):Spn l fun j=>c*v j:=by
 induction h with
 | zero =>
  have e:(fun _:Nat=>c*(0:K))=fun _=>0:=funext fun j=>mul_zero c;rw[e];exact .zero
 | add d r u hr _ ih =>
  have e:(fun j=>c*(u j+d*r j))=fun j=>c*u j+(c*d)*r j:=funext fun j=>RE.eq [c,u j,d,r j] (t0*(t1+t2*t3)) (t0*t1+t0*t2*t3) rfl;rw[e];exact .add _ r _ hr ih
theorem Spn.of {l:List (Rw K)} {r:Rw K} (h:r∈l):Spn l r:=by
 have e:r=fun j=>(0:K)+1*r j:=funext fun j=>by rw[one_mul,zero_add]
 rw[e];exact .add 1 r _ h .zero
theorem Spn.trans {l m:List (Rw K)} (h:∀ r∈l,Spn m r) {v:Rw K} (k:Spn l v):Spn m v:=by
 induction k with
 | zero=>exact .zero
 | add c r u hr _ ih=>exact ih.plus ((h r hr).smul c)
theorem Spn.all {l:List (Rw K)} {P:Rw K->Prop} (h0:P fun _=>0) (ha:∀ c r v,r∈l->P v->P fun j=>v j+c*r j) {v:Rw K} (h:Spn l v):P v:=by
 induction h with
 | zero=>exact h0
 | add c r u hr _ ih=>exact ha c r u hr ih
structure Gi (a0 : List (Rw K)) (c : Nat) (s : Gs K) : Prop where
 back:∀ r∈a0,Spn (s.a++s.o.map Prod.fst) r
 fore:∀ r∈s.a++s.o.map Prod.fst,Spn a0 r
 az:∀ r∈s.a,∀ j,j<c->r j=0
 one:∀ x∈s.o,x.1 x.2=1/\x.2<c/\∀ j,j<x.2->x.1 j=0
 off:s.o.Pairwise fun x y=>x.1 y.2=0/\y.1 x.2=0
theorem Gi.start (a0:List (Rw K)):Gi a0 0 ⟨a0,[]⟩:=⟨fun r hr=>Spn.of (by simpa using hr),fun r hr=>Spn.of (by simpa using hr),fun _ _ j hj=>absurd hj (Nat.not_lt_zero j),fun _ hx=>absurd hx (by simp),List.Pairwise.nil⟩
theorem Gi.step {a0:List (Rw K)} {c:Nat} {s:Gs K} (h:Gi a0 c s):Gi a0 (c+1) (gQ c s):=by
 unfold gQ;split
 ·next hf =>
  refine⟨h.back,h.fore,fun r hr j hj=>?_,fun x hx=>?_,h.off⟩
  ·rcases Nat.lt_or_ge j c with e | e
   ·exact h.az r hr j e
   ·rw[show j=c by omega];exact gfind_none hf r hr
  ·obtain⟨h1,h2,h3⟩:=h.one x hx;exact⟨h1,by omega,h3⟩
 ·next l r m hf =>
  obtain⟨h1,h2,h3⟩:=kZ hf;have hr:r∈s.a:=by rw[h1];simp
  have hsub:∀ q∈l++m,q∈s.a:=fun q hq=>by
   rw[h1];rcases List.mem_append.1 hq with e | e
   ·exact List.mem_append.2 (.inl e)
   ·exact List.mem_append.2 (.inr (List.mem_cons_of_mem _ e))
  have hp1:gpv c r c=1:=by
   show Fld.inv (r c)*r c=1;rw[Crg.mul_comm];exact Fld.mul_inv _ h2
  have hpz:∀ j,j<c->gpv c r j=0:=fun j hj=>by
   show Fld.inv (r c)*r j=0;rw[h.az r hr j hj,mul_zero]
  have hcl0:∀ q:Rw K,gcl c (gpv c r) q c=0:=fun q=>by
   show q c + -(q c)*gpv c r c=0;rw[hp1,Crg.mul_one,Crg.add_neg]
  have hclz:∀(q:Rw K) j,j<c->gcl c (gpv c r) q j=q j:=fun q j hj=>by
   show q j + -(q c)*gpv c r j=q j;rw[hpz j hj,mul_zero,Crg.add_zero]
  -- old wk from new ones and back
  have old:∀ q:Rw K,q=fun j=>gcl c (gpv c r) q j+q c*gpv c r j:=fun q=>funext fun j=>RE.eq [q j,q c,gpv c r j] t0 (t0 + -t1*t2+t1*t2) rfl;have hr2:r=fun j=>(0:K)+r c*gpv c r j:=funext fun j=>by
   show r j=0+r c*(Fld.inv (r c)*r j);rw[zero_add,<- Crg.mul_assoc,Fld.mul_inv _ h2,one_mul]
  refine⟨fun q hq=>?_,fun q hq=>?_,fun q hq j hj=>?_,fun x hx=>?_,?_⟩
  ·refine Spn.trans (fun u hu=>?_) (h.back q hq);have hpm:gpv c r∈(l++m).map (gcl c (gpv c r))++(s.o.map (fun x=>(gcl c (gpv c r) x.1,x.2))++[(gpv c r,c)]).map Prod.fst:=by simp
   have key:∀ u:Rw K,gcl c (gpv c r) u∈(l++m).map (gcl c (gpv c r))++(s.o.map (fun x=>(gcl c (gpv c r) x.1,x.2))++[(gpv c r,c)]).map Prod.fst->Spn ((l++m).map (gcl c (gpv c r))++(s.o.map (fun x=>(gcl c (gpv c r) x.1,x.2))++[(gpv c r,c)]).map Prod.fst) u:=fun u hu=>by
    have e:=old u;rw[e];exact .add _ _ _ hpm (Spn.of hu)
   rcases List.mem_append.1 hu with e | e
   ·rw[h1]at e;rcases List.mem_append.1 e with e | e
    ·exact key u (List.mem_append.2 (.inl (List.mem_map.2 ⟨u,List.mem_append.2 (.inl e),rfl⟩)))
    ·rcases List.mem_cons.1 e with e | e
     ·rw[e,hr2];exact .add _ _ _ (by rw[<- hr2];exact hpm) .zero
     ·exact key u (List.mem_append.2 (.inl (List.mem_map.2 ⟨u,List.mem_append.2 (.inr e),rfl⟩)))
   ·obtain⟨x,hx,rfl⟩:=List.mem_map.1 e;exact key x.1 (List.mem_append.2 (.inr (List.mem_map.2 ⟨(gcl c (gpv c r) x.1,x.2),List.mem_append.2 (.inl (List.mem_map.2 ⟨x,hx,rfl⟩)),rfl⟩)))
  ·have hpS:Spn a0 (gpv c r):=(h.fore r (List.mem_append.2 (.inl hr))).smul _;have key:∀ u:Rw K,Spn a0 u->Spn a0 (gcl c (gpv c r) u):=fun u hu=>hu.plus (hpS.smul (-(u c)));rcases List.mem_append.1 hq with e | e
   ·obtain⟨u,hu,rfl⟩:=List.mem_map.1 e;exact key u (h.fore u (List.mem_append.2 (.inl (hsub u hu))))
   ·obtain⟨x,hx,rfl⟩:=List.mem_map.1 e;rcases List.mem_append.1 hx with e | e
    ·obtain⟨y,hy,rfl⟩:=List.mem_map.1 e;exact key y.1 (h.fore y.1 (List.mem_append.2 (.inr (List.mem_map.2 ⟨y,hy,rfl⟩))))
    ·rw[List.mem_singleton]at e;rw[e];exact hpS
  ·obtain⟨u,hu,rfl⟩:=List.mem_map.1 hq;rcases Nat.lt_or_ge j c with e | e
   ·rw[hclz u j e];exact h.az u (hsub u hu) j e
   ·rw[show j=c by omega];exact hcl0 u
  ·rcases List.mem_append.1 hx with e | e
   ·obtain⟨y,hy,rfl⟩:=List.mem_map.1 e;obtain⟨g1,g2,g3⟩:=h.one y hy;refine⟨?_,by show y.2<c+1;omega,fun j hj=>?_⟩
    ·show gcl c (gpv c r) y.1 y.2=1;rw[hclz _ _ g2,g1]
    ·have hj:j<y.2:=hj;show gcl c (gpv c r) y.1 j=0;rw[hclz _ _ (by omega),g3 j hj]
   ·rw[List.mem_singleton]at e;rw[e];exact⟨hp1,Nat.lt_succ_self c,hpz⟩
  ·refine List.pairwise_append.2 ⟨List.pairwise_map.2 (h.off.imp_of_mem fun {x y} hx hy hxy=>?_),List.pairwise_singleton _ _,fun x hx y hy=>?_⟩
   ·refine⟨?_,?_⟩
    ·show gcl c (gpv c r) x.1 y.2=0;rw[hclz _ _ (h.one y hy).2.1,hxy.1]
    ·show gcl c (gpv c r) y.1 x.2=0;rw[hclz _ _ (h.one x hx).2.1,hxy.2]
   ·obtain⟨z,hz,rfl⟩:=List.mem_map.1 hx;rw[List.mem_singleton]at hy;rw[hy];exact⟨hcl0 z.1,hpz _ (h.one z hz).2.1⟩
theorem Vq (a0 : List (Rw K)) : ∀ c, Gi a0 c (zy a0 c)
 | 0=>Gi.start a0
 | c+1=>(Vq a0 c).step
/-! Clearing. -/
theorem gclr_add : ∀ (l : List (Rw K × Nat)) (v w : Rw K) (d : K), yW l (fun j => v j + d * w j) = fun j => yW l v j + d * yW l w j
 | [],_,_,_=>rfl
 | x :: l,v,w,d=>by
  show yW l (gcl x.2 x.1 fun j=>v j+d*w j)=fun j=>yW l (gcl x.2 x.1 v) j+d*yW l (gcl x.2 x.1 w) j;rw[<- gclr_add l];refine congrArg (yW l) (funext fun j=>?_);exact RE.eq [v j,d,w j,v x.2,w x.2,x.1 j] (t0+t1*t2 + -(t3+t1*t4)*t5) (t0 + -t3*t5+t1*(t2 + -t4*t5)) rfl
theorem gclr_zero : ∀ l : List (Rw K × Nat), yW l (fun _ => 0) = fun _ => 0
 | []=>rfl
 | x :: l=>by
  show yW l (gcl x.2 x.1 fun _=>0)=_;have e:(gcl x.2 x.1 fun _=>(0:K))=fun _=>0:=funext fun j=>by
   show(0:K) + -0*x.1 j=0;rw[neg_zero,zero_mul,Crg.add_zero]
  rw[e,gclr_zero l]
theorem gclr_same : ∀ (l : List (Rw K × Nat)) (v : Rw K), (∀ x ∈ l, v x.2 = 0) → yW l v = v
 | [],_,_=>rfl
 | x :: l,v,h=>by
  show yW l (gcl x.2 x.1 v)=v;have e:gcl x.2 x.1 v=v:=funext fun j=>by
   show v j + -(v x.2)*x.1 j=v j;rw[h x (by simp),neg_zero,zero_mul,Crg.add_zero]
  rw[e];exact gclr_same l v fun y hy=>h y (by simp[hy])
theorem gclr_row : ∀ (l : List (Rw K × Nat)), (∀ x ∈ l, x.1 x.2 = 1) → (l.Pairwise fun x y => x.1 y.2 = 0 ∧ y.1 x.2 = 0) → ∀ x ∈ l, yW l x.1 = fun _ => 0
 | [],_,_,x,hx=>absurd hx (by simp)
 | y :: l,h1,h2,x,hx=>by
  show yW l (gcl y.2 y.1 x.1)=_;rcases List.mem_cons.1 hx with e | e
  ·have e2:gcl y.2 y.1 x.1=fun _=>0:=funext fun j=>by
    show x.1 j + -(x.1 y.2)*y.1 j=0;rw[e,h1 y (by simp)];exact RE.eq [y.1 j] (t0 + -1*t0) 0 rfl
   rw[e2,gclr_zero]
  ·have hz:=((List.pairwise_cons.1 h2).1 x e).2;have e2:gcl y.2 y.1 x.1=x.1:=funext fun j=>by
    show x.1 j + -(x.1 y.2)*y.1 j=x.1 j;rw[hz,neg_zero,zero_mul,Crg.add_zero]
   rw[e2];exact gclr_row l (fun z hz=>h1 z (by simp[hz])) (List.pairwise_cons.1 h2).2 x e
theorem gclr_diff : ∀ (l : List (Rw K × Nat)) (v : Rw K), ∃ s, Spn (l.map Prod.fst) s ∧ ∀ j, v j = yW l v j + s j
 | [],v=>⟨fun _=>0,.zero,fun j=>(Crg.add_zero _).symm⟩
 | x :: l,v=>by
  obtain⟨s,h1,h2⟩:=gclr_diff l (gcl x.2 x.1 v);refine⟨fun j=>s j+v x.2*x.1 j,.add _ _ _ (by simp) (Spn.trans (fun r hr=>Spn.of (by simp at hr ⊢;exact .inr hr)) h1),fun j=>?_⟩;have e:=h2 j;show v j=yW l (gcl x.2 x.1 v) j+(s j+v x.2*x.1 j);have e2:v j=gcl x.2 x.1 v j+v x.2*x.1 j:=RE.eq [v j,v x.2,x.1 j] t0 (t0 + -t1*t2+t1*t2) rfl;rw[e2,e,Crg.add_assoc]
end
end Mx
end Go.Proofs.YtkmbnldginonbaaGreat
namespace Go.Proofs.YtkmbnldginonbaaGreat
open Crg Pol
namespace Mx
section
variable {K:Type} [Fld K]
def yy (cols:Nat) (T:Nat->Rw K) (i j:Nat):K:=if j<cols then T i j else if j=cols+i then 1 else 0
def k7 (cols k:Nat) (T:Nat->Rw K):List (Rw K):=(List.range k).map (yy cols T)
def gext (cols:Nat) (b:Rw K) (j:Nat):K:=if j<cols then b j else 0
noncomputable def jP (cols k:Nat) (T:Nat->Rw K) (b:Rw K):Rw K:=yW (zy (k7 cols k T) (cols+k)).o (gext cols b)
variable {cols k:Nat} {T:Nat->Rw K} {b:Rw K}
def Gf (cols k:Nat) (T:Nat->Rw K) (r:Rw K):Prop:=∀ j,j<cols->r j=sm (fun i=>r (cols+i)*T i j) k
theorem gf_spn {r:Rw K} (h:Spn (k7 cols k T) r):Gf cols k T r:=by
 refine Spn.all (P:=Gf cols k T) (fun j _=>(z8 fun i _=>zero_mul _).symm) (fun c r v hr hv j hj=>?_) h;have e:∀ r∈k7 cols k T,Gf cols k T r:=fun r hr j hj=>by
  obtain⟨i,hi,rfl⟩:=List.mem_map.1 hr;have hi:=List.mem_range.1 hi;rw[x7 (k:=i) hi fun a _ ha=>by rw[show yy cols T i (cols+a)=0 from by unfold yy;rw[if_neg (by omega),if_neg (by omega)],zero_mul],show yy cols T i (cols+i)=1 from by unfold yy;rw[if_neg (by omega),if_pos rfl],one_mul];exact if_pos hj
 have e2:=e r hr j hj;have e3:=hv j hj;show v j+c*r j=sm (fun i=>(v (cols+i)+c*r (cols+i))*T i j) k;rw[e2,e3,mul_sm,<- sm_add];exact sm_congr fun i _=>RE.eq [v (cols+i),c,r (cols+i),T i j] (t0*t3+t1*(t2*t3)) ((t0+t1*t2)*t3) rfl
theorem gsol_of (h:∀ j,j<cols->jP cols k T b j=0):∀ j,j<cols->b j=sm (fun i => -(jP cols k T b (cols+i))*T i j) k:=fun j hj=>by
 have I:=Vq (k7 cols k T) (cols+k);obtain⟨s,hs,e⟩:=gclr_diff (zy (k7 cols k T) (cols+k)).o (gext cols b);have F:=gf_spn (cols:=cols) (k:=k) (T:=T) (Spn.trans (fun r hr=>I.fore r (List.mem_append.2 (.inr hr))) hs);have e1:=e j;rw[show gext cols b j=b j from if_pos hj]at e1;rw[e1,show yW (zy (k7 cols k T) (cols+k)).o (gext cols b) j=0 from h j hj,zero_add,F j hj];refine sm_congr fun i _=>?_;have e2:=e (cols+i);rw[show gext cols b (cols+i)=0 from if_neg (by omega)]at e2;have e3:s (cols+i) = -(jP cols k T b (cols+i)):=VY e2.symm;rw[e3]
def Lin (cols k:Nat) (T:Nat->Rw K):Prop:=∀ e:Nat->K,(∀ j,j<cols->sm (fun i=>e i*T i j) k=0)->∀ i,i<k->e i=0
theorem gpiv (hI:Lin cols k T):∀ x∈(zy (k7 cols k T) (cols+k)).o,x.2<cols:=fun x hx=>by
 have I:=Vq (k7 cols k T) (cols+k);obtain⟨h1,h2,h3⟩:=I.one x hx;rcases Nat.lt_or_ge x.2 cols with e | e
 ·exact e
 ·have F:=gf_spn (I.fore x.1 (List.mem_append.2 (.inr (List.mem_map.2 ⟨x,hx,rfl⟩))));have z:=hI (fun i=>x.1 (cols+i)) (fun j hj=>by rw[<- F j hj,h3 j (by omega)]) (x.2-cols) (by omega);have z:x.1 (cols+(x.2-cols))=0:=z;rw[show cols+(x.2-cols)=x.2 by omega,h1]at z;exact absurd z Fld.one_ne
theorem gsol_eq (hI:Lin cols k T) {x:Nat->K} (hb:∀ j,j<cols->b j=sm (fun i=>x i*T i j) k):(∀ j,j<cols->jP cols k T b j=0)/\∀ i,i<k->jP cols k T b (cols+i) = -(x i):=by
 have I:=Vq (k7 cols k T) (cols+k);have hp:=gpiv hI;let u:Rw K:=fun j=>sm (fun i=>x i*yy cols T i j) k;let w:Rw K:=fun j=>if j<cols then 0 else if j<cols+k then -(x (j-cols))else 0
 have hu:Spn (k7 cols k T) u:=by
  have key:∀ m,m<=k->Spn (k7 cols k T) fun j=>sm (fun i=>x i*yy cols T i j) m:=by
   intro m;induction m with
   | zero=>intro _;exact .zero
   | succ m ih =>
    intro hm;exact .add (x m) (yy cols T m) _ (List.mem_map.2 ⟨m,List.mem_range.2 hm,rfl⟩) (ih (by omega))
  exact key k (Nat.le_refl k)
 have hz:∀ j,j<cols+k->yW (zy (k7 cols k T) (cols+k)).o u j=0:=by
  refine Spn.all (P:=fun v=>∀ j,j<cols+k->yW (zy (k7 cols k T) (cols+k)).o v j=0) (fun j _=>by rw[gclr_zero]) (fun c r v hr hv j hj=>?_) (Spn.trans I.back hu);rw[gclr_add];show yW _ v j+c*yW _ r j=0;rw[hv j hj,zero_add];rcases List.mem_append.1 hr with e | e
  ·rw[gclr_same _ r fun y hy=>I.az r e y.2 (I.one y hy).2.1,I.az r e j hj,mul_zero]
  ·obtain⟨y,hy,rfl⟩:=List.mem_map.1 e;rw[gclr_row _ (fun z hz=>(I.one z hz).1) I.off y hy,mul_zero]
 have ha:∀ i j,cols<=j->yy cols T i j=if j=cols+i then 1 else 0:=fun i j hj=>by unfold yy;rw[if_neg (by omega)]
 have e1:gext cols b=fun j=>u j+1*w j:=funext fun j=>by
  rw[one_mul];show(if j<cols then b j else 0)=sm (fun i=>x i*yy cols T i j) k+if j<cols then 0 else if j<cols+k then -(x (j-cols))else 0
  rcases Nat.lt_or_ge j cols with c | c
  ·rw[if_pos c,if_pos c,Crg.add_zero,hb j c];exact sm_congr fun i _=>by rw[show yy cols T i j=T i j from if_pos c]
  ·rw[if_neg (by omega),if_neg (by omega)];rcases Nat.lt_or_ge j (cols+k)with d | d
   ·rw[if_pos d,x7 (k:=j-cols) (by omega) fun i _ hi=>by rw[ha i j c,if_neg (by omega),mul_zero],ha _ j c,if_pos (by omega),Crg.mul_one,Crg.add_neg]
   ·rw[if_neg (by omega),Crg.add_zero,z8 fun i hi=>by rw[ha i j c,if_neg (by omega),mul_zero]]
 have e2:∀ j,j<cols+k->jP cols k T b j=w j:=fun j hj=>by
  show yW _ (gext cols b) j=w j;rw[e1,gclr_add];show yW _ u j+1*yW _ w j=w j;rw[hz j hj,zero_add,one_mul,gclr_same _ w fun y hy=>if_pos (hp y hy)]
 refine⟨fun j hj=>by rw[e2 j (by omega)];exact if_pos hj,fun i hi=>?_⟩;rw[e2 (cols+i) (by omega)];show(if cols+i<cols then(0:K)else if cols+i<cols+k then -(x (cols+i-cols))else 0)=_;rw[if_neg (by omega),if_pos (by omega),show cols+i-cols=i by omega]
end
end Mx
end Go.Proofs.YtkmbnldginonbaaGreat
