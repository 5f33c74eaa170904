/- Rows of fractions: zeros, normal forms. -/
import Derived.Test.YtkmbnldginonbaaGreatHm8
set_option maxHeartbeats 4000000
namespace Go.Proofs.YtkmbnldginonbaaGreat
open Go.RowKit
def rows (sz n:Nat) (g:Nat->List Cell):V := .c (.row sz n fun i j=>(g i).getD j .any)
theorem SubC.row {sz n:Nat} {f f':Nat->Nat->Cell} (h:∀ i j,i<n->j<sz->f i j=f' i j):SubC (.row sz n f) (.row sz n f'):=by
  rintro D w v ⟨A,c,rfl,h1,h3⟩
  refine⟨A,c,rfl,h1,fun hn=>?_⟩
  obtain⟨b,o,hA,hb,hD,hc⟩:=h3 hn
  refine⟨b,o,hA,hb,hD,fun i j hi hj=>?_⟩
  rw[← h i j hi hj]
  exact hc i j hi hj
theorem Sub.row {sz n n':Nat} {f f':Nat->Nat->Cell} (hn:n=n') (h:∀ i j,i<n->j<sz->f i j=f' i j):Sub (.c (.row sz n f)) (.c (.row sz n' f')):=by
  subst hn
  exact fun D w v hv=>SubC.row h D w v hv
theorem rr_clos (q:RawR) (j:Nat) (h:j<4):((rr q).getD j .any).clos=true:=by
  match j,h with
  | 0,_=>rfl
  | 1,_=>rfl
  | 2,_=>rfl
  | 3,_=>rfl
theorem qof0:FnOK Tryz.prog true 45 [.c (.int .i64 0)] (.g (nq 0)):=qof_ok (n:=0) (by omega) (by omega)
theorem i64_range {n:Int} (h1 : -9223372036854775808≤n) (h2:n<9223372036854775808):inR .i64 n:=⟨h1,h2⟩
theorem clos_lt : ∀ {c : Cell} {m : Nat}, c.clos = true → c.lt m = true
  | .cl _ _ _,_,h=>by
    simp only[Cell.clos,Cell.lt,List.all_eq_true,List.mem_range]at h ⊢
    exact fun j hj=>clos_lt (h j hj)
  | .any,_,_=>rfl
  | .bool _,_,_=>rfl
  | .int _ _,_,_=>rfl
  | .nil,_,_=>rfl
  | .row _ _ _,_,_=>rfl
  | .xp _ _,_,_=>rfl
  | .fn _,_,_=>rfl
  | .str _,_,_=>rfl
  | .p ..,_,h=>by simp[Cell.clos]at h
  | .gs ..,_,h=>by simp[Cell.clos]at h
  | .sl ..,_,h=>by simp[Cell.clos]at h
theorem zeroF_clos {l:List Cell} (h:l.all Cell.clos=true) (i j:Nat) (hj:j<l.length):(zeroF l i j).clos=true:=by
  show(l.getD j .any).clos=true
  simp only[List.getD,List.getElem?_eq_getElem hj,Option.getD_some]
  exact List.all_eq_true.1 h _ (List.getElem_mem hj)
structure Filled (n i : Nat) (g : Nat → List Cell) (f : Nat → Nat → Cell) : Prop where
  done:∀ i' j,i'<i->j<4->f i' j=(g i').getD j .any
  clos:∀ i' j,i'<n->j<4->(f i' j).clos=true
theorem Filled.step {n i:Nat} {g:Nat->List Cell} {f:Nat->Nat->Cell} (h:Filled n i g f) {q:RawR} (hq:g i=rr q):Filled n (i+1) g (updF f i 0 (rr q)):=by
  constructor
  · intro i' j hi hj
    unfold updF
    by_cases e:i'=i
    · subst e
      rw[if_pos ⟨rfl,Nat.zero_le _,by simpa [rr] using hj⟩,hq];rfl
    · rw[if_neg (fun h=>e h.1)];exact h.done i' j (by omega) hj
  · intro i' j hi hj
    unfold updF
    split
    · exact rr_clos q _ (by omega)
    · exact h.clos i' j hi hj
end Go.Proofs.YtkmbnldginonbaaGreat
/- Rows that are written: combine; vectors times rows. -/
namespace Go.Proofs.YtkmbnldginonbaaGreat
open Go.RowKit
def qrow (n:Nat) (A:Nat->Rat):Cell := .row 4 n fun i j=>(nq (A i)).getD j .any
def qblk (n:Nat) (A:Nat->Rat):Blk:=⟨38,4,n,0,0,fun i j=>(nq (A i)).getD j .any⟩
theorem qblk_plain (n:Nat) (A:Nat->Rat):(qblk n A).plain:=fun _ _ _ _ hj=>rr_clos _ _ hj
def QS:Nat:=274877906944
theorem nonzero_ok {q:RawR} {L:Nat} (h:q.Fit L) (hL:L+3≤LIM):FnOK Tryz.prog true 154 [.g (rr q)] (.c (.bool (decide (q.val≠0)))):=by
  refine fn_ok (E:=E1) E1_ok Tryz.func154 rfl mixed (by kernel_rfl) (by kernel_rfl) ?_
  conv=>whnf
  refine⟨_,qsign_ok (q:=q) h hL,?_⟩
  conv=>whnf
  refine⟨rfl,Sub.bool ?_⟩
  show(!decide (q.val.num.sign=0))=decide (q.val≠0)
  by_cases e:q.val=0
  · simp[e]
  · have:¬ q.val.num.sign=0:=fun h=>e ((rat_sign_zero _).1 h)
    simp[e]
theorem QS_lim:3*QS+16≤LIM:=by decide
theorem qlen_mul {x y:Rat} {L L':Nat} (hx:qlen x≤L) (hy:qlen y≤L') (h1:1≤L+L'):qlen (x*y)≤L+L':=by
  have e:x*y=ratio (x.num*y.num) ((x.den:Int)*(y.den:Int)):=by
    rw[← ratio_mul,ratio_num_den,ratio_num_den]
  rw[e]
  unfold qlen at hx hy
  have a1:=zlen_mul x.num y.num
  have a2:=zlen_mul (x.den:Int) (y.den:Int)
  exact qlen_ratio (by omega) (by omega) h1
theorem upd_alike {n i:Nat} {A A':Nat->Rat} {y:Rat} (h1:A' i=y) (h2:∀ i',i'<n->i'≠i->A' i'=A i'):Blk.alike ⟨38,4,n,0,0,updF (qblk n A).f i 0 (nq y)⟩ (qblk n A'):=by
  refine⟨rfl,fun i' j hi hj=>?_⟩
  show updF (qblk n A).f i 0 (nq y) i' j=(nq (A' i')).getD j .any
  unfold updF
  by_cases e:i'=i
  · subst e
    rw[if_pos ⟨rfl,Nat.zero_le _,by simpa [rr] using hj⟩,h1];rfl
  · rw[if_neg (fun h=>e h.1),h2 i' hi e];rfl
theorem mid_alike {n:Nat} {A A':Nat->Rat} (h2:∀ i',i'<n->A' i'=A i'):Blk.alike (qblk n A) (qblk n A'):=by
  refine⟨rfl,fun i' j hi hj=>?_⟩
  show(nq (A i')).getD j .any=(nq (A' i')).getD j .any
  rw[h2 i' hi]
def mid (A Bv:Nat->Rat) (x:Rat) (i i':Nat):Rat:=if i'<i then A i'+x*Bv i' else A i'
theorem mid_self {A Bv:Nat->Rat} {x:Rat} {i:Nat}:mid A Bv x i i=A i:=by simp[mid]
theorem mid_succ {A Bv:Nat->Rat} {x:Rat} {i:Nat}:mid A Bv x (i+1) i=A i+x*Bv i:=by simp[mid]
theorem mid_ne {A Bv:Nat->Rat} {x:Rat} {i i':Nat} (h:i'≠i):mid A Bv x (i+1) i'=mid A Bv x i i':=by
  unfold mid
  by_cases e:i'<i
  · rw[if_pos e,if_pos (by omega)]
  · rw[if_neg e,if_neg (by omega)]
theorem qblk_lt (n m:Nat) (A:Nat->Rat) (i j:Nat) (hj:j<4):((qblk n A).f i j).lt m=true:=clos_lt (rr_clos _ _ hj)
theorem box_lt (q:RawR) (m i j:Nat) (hj:j<4):(boxF (rr q) i j).lt m=true:=clos_lt (rr_clos _ _ hj)
theorem upd_clos {n i:Nat} {A:Nat->Rat} {y:Rat} (i' j:Nat) (hj:j<4):(updF (qblk n A).f i 0 (nq y) i' j).clos=true:=by
  unfold updF
  split
  · exact rr_clos _ _ (by omega)
  · exact rr_clos _ _ hj
theorem combine_m {n : Nat} {A Bv : Nat → Rat} {x : Rat} (hn : n ≤ 1048576) (hA : ∀ i, i < n → qlen (A i) ≤ QS) (hB : ∀ i, i < n → qlen (Bv i) ≤ QS) (hx : qlen x ≤ QS) :
    FnM Tryz.prog true 155 (qblk n A) [.c (.gs 0 0),.c (qrow n Bv),.g (nq x),.c (.int .i64 0)] (.c .any) (qblk n fun i=>A i+x*Bv i) []:=by
  have hQ:=QS_lim
  have hQ1:1≤QS:=by decide
  refine fnm_ok (E:=E1m) E1m_ok Tryz.func155 rfl mixed (by kernel_rfl) (by kernel_rfl) rfl ?_
  conv=>whnf
  refine loop_inv (fun k σ=>∃ i:Nat,k=n-i/\i≤n/\σ=⟨asg [(0,.c (.gs 0 0)),(1,.c (qrow n Bv)),(6,.c (.p 1 0 4 0 0)),(8,.c (.int .i64 i))],[qblk n (mid A Bv x i),⟨38,4,1,0,0,boxF (nq x)⟩]⟩) n ?_ ?_
  · refine⟨_,Weak.cut (tl:=[(0,.c (.gs 0 0)),(1,.c (qrow n Bv)),(6,.c (.p 1 0 4 0 0)),(8,.c (.int .i64 0))]) (bl':=[qblk n (mid A Bv x 0),⟨38,4,1,0,0,boxF (nq x)⟩]) rfl ⟨rfl,rfl,rfl,rfl,trivial⟩ rfl ⟨fun _ i j _ hj=>qblk_lt _ _ _ i j hj,fun _ i j _ hj=>box_lt _ _ i j hj,trivial⟩ rfl,0,rfl,by omega,rfl⟩
  · rintro k σ' ⟨i,hk,hi,rfl⟩
    conv=>whnf
    refine bcase (fun(h:decide ((i:Int)<n)=true)=>?_) fun(h:decide ((i:Int)<n)=false)=>?_
    · have h:=of_decide_eq_true h
      have hin:i<n:=by omega
      conv=>whnf
      refine⟨by omega,by show((i:Nat):Int)<(n:Int);omega,?_⟩
      conv=>whnf
      refine⟨_,nonzero_ok (q:=ofR (Bv i)) (ofR_fit (hB i hin)) (by omega),?_⟩
      conv=>whnf
      refine bcase (fun(h2:decide ((ofR (Bv i)).val≠0)=true)=>?_) fun(h2:decide ((ofR (Bv i)).val≠0)=false)=>?_
      · conv=>whnf
        refine⟨by omega,by show((i:Nat):Int)<(n:Int);omega,?_⟩
        conv=>whnf
        refine⟨by omega,by show((i:Nat):Int)<(n:Int);omega,?_⟩
        conv=>whnf
        refine⟨_,qmul_ok (q:=ofR x) (p:=ofR (Bv i)) (ofR_fit hx) (ofR_fit (hB i hin)) (by omega),?_⟩
        conv=>whnf
        refine⟨_,qadd_ok (q:=ofR (mid A Bv x i i)) (p:=ofR ((ofR x).val*(ofR (Bv i)).val)) (ofR_fit (L:=QS) (by rw[mid_self];exact hA i hin)) (ofR_fit (L:=QS+QS) (by rw[ofR_val,ofR_val];exact qlen_mul hx (hB i hin) (by omega))) (by omega),?_⟩
        conv=>whnf
        refine⟨by omega,by show((i:Nat):Int)<(n:Int);omega,?_⟩
        conv=>whnf
        refine⟨i64_range (by omega) (by omega),?_⟩
        conv=>whnf
        refine⟨n-(i+1),by omega,_,(Weak.cut (tl:=[(0,.c (.gs 0 0)),(1,.c (qrow n Bv)),(6,.c (.p 1 0 4 0 0)),(8,.c (.int .i64 (i+1:Nat)))]) (bl':=[⟨38,4,n,0,0,updF (qblk n (mid A Bv x i)).f i 0 (nq ((ofR (mid A Bv x i i)).val+(ofR ((ofR x).val*(ofR (Bv i)).val)).val))⟩,⟨38,4,1,0,0,boxF (nq x)⟩]) rfl ⟨rfl,rfl,rfl,rfl,trivial⟩ rfl ⟨fun _ i' j _ hj=>clos_lt (upd_clos i' j hj),fun _ i j _ hj=>box_lt _ _ i j hj,trivial⟩ rfl).trans (Weak.alike (bl':=[qblk n (mid A Bv x (i+1)),_]) ⟨upd_alike (by rw[ofR_val,ofR_val,ofR_val,ofR_val,mid_self,mid_succ]) fun i' _ he=>mid_ne he,Blk.alike.refl _,trivial⟩),i+1,rfl,by omega,rfl⟩
      · have h2:Bv i=0:=by have:=of_decide_eq_false h2;rw[ofR_val]at this;exact Decidable.not_not.1 this
        conv=>whnf
        refine⟨i64_range (by omega) (by omega),?_⟩
        conv=>whnf
        refine⟨n-(i+1),by omega,_,(Weak.cut (tl:=[(0,.c (.gs 0 0)),(1,.c (qrow n Bv)),(6,.c (.p 1 0 4 0 0)),(8,.c (.int .i64 (i+1:Nat)))]) (bl':=[qblk n (mid A Bv x i),⟨38,4,1,0,0,boxF (nq x)⟩]) rfl ⟨rfl,rfl,rfl,rfl,trivial⟩ rfl ⟨fun _ i j _ hj=>qblk_lt _ _ _ i j hj,fun _ i j _ hj=>box_lt _ _ i j hj,trivial⟩ rfl).trans (Weak.alike (bl':=[qblk n (mid A Bv x (i+1)),_]) ⟨mid_alike fun i' _=>?_,Blk.alike.refl _,trivial⟩),i+1,rfl,by omega,rfl⟩
        by_cases e:i'=i
        · subst e;rw[mid_self,mid_succ,h2,Rat.mul_zero,Rat.add_zero]
        · exact mid_ne e
    · have h:=of_decide_eq_false h
      obtain rfl:i=n:=by omega
      conv=>whnf
      exact(Weak.cut (m0:=1) (tl:=[(0,.c .any)]) (bl':=[qblk i (mid A Bv x i)]) rfl ⟨rfl,trivial⟩ rfl ⟨fun _ i j _ hj=>qblk_lt _ _ _ i j hj,trivial⟩ rfl).trans (Weak.alike (bl':=[qblk i fun i=>A i+x*Bv i]) ⟨mid_alike fun i' hi'=>by unfold mid;rw[if_pos hi'],trivial⟩)
theorem zeros_m {n:Nat} (hn:n≤1048576):FnM Tryz.prog true 151 phB [.c (.int .i64 n)] (.c (.gs 1 0)) phB [qblk n fun _=>0]:=by
  refine fnm_ok (E:=E1m) E1m_ok Tryz.func151 rfl mixed (by kernel_rfl) (by kernel_rfl) rfl ?_
  conv=>whnf
  refine⟨by omega,by omega,by omega,by show((64:Nat):Int)*(n:Int)≤_;omega,?_⟩
  conv=>whnf
  refine loop_inv (fun k σ=>∃(i:Nat) (f:Nat->Nat->Cell),k=n-i/\i≤n/\Filled n i (fun _=>nq 0) f/\σ=⟨asg [(3,.c (.gs 1 0)),(8,.c (.int .i64 n)),(9,.c (.int .i64 i))],[phB,⟨38,4,n,0,0,f⟩]⟩) n ?_ ?_
  · have hz:=zeroF_clos (l:=[.bool false,.nil,.bool false,.nil]) rfl
    refine⟨_,Weak.cut (tl:=[(3,.c (.gs 1 0)),(8,.c (.int .i64 n)),(9,.c (.int .i64 0))]) (bl':=[phB,⟨38,4,n,0,0,_⟩]) rfl ⟨rfl,rfl,rfl,trivial⟩ rfl ⟨fun h=>absurd h (by decide),fun _ i j _ hj=>clos_lt (hz i j hj),trivial⟩ rfl,0,_,rfl,by omega,⟨fun i' j h=>by omega,fun i j _ hj=>hz i j hj⟩,rfl⟩
  · rintro k σ' ⟨i,f,hk,hi,hf,rfl⟩
    conv=>whnf
    refine bcase (fun(h:decide ((i:Int)<n)=true)=>?_) fun(h:decide ((i:Int)<n)=false)=>?_
    · have h:=of_decide_eq_true h
      conv=>whnf
      refine⟨_,qof0,?_⟩
      conv=>whnf
      refine⟨by omega,by show((i:Nat):Int)<(n:Int);omega,?_⟩
      conv=>whnf
      refine⟨i64_range (by omega) (by omega),?_⟩
      conv=>whnf
      have hf':=hf.step (q:=ofR 0) rfl
      refine⟨n-(i+1),by omega,_,Weak.cut (tl:=[(3,.c (.gs 1 0)),(8,.c (.int .i64 n)),(9,.c (.int .i64 (i+1:Nat)))]) (bl':=[phB,⟨38,4,n,0,0,_⟩]) rfl ⟨rfl,rfl,rfl,trivial⟩ rfl ⟨fun h=>absurd h (by decide),fun _ i j hi hj=>clos_lt (hf'.clos i j hi hj),trivial⟩ rfl,i+1,_,rfl,by omega,hf',rfl⟩
    · have h:=of_decide_eq_false h
      obtain rfl:i=n:=by omega
      conv=>whnf
      exact(Weak.cut (m0:=1) (tl:=[(0,.c (.gs 1 0))]) (bl':=[phB,⟨38,4,i,0,0,f⟩]) rfl ⟨rfl,trivial⟩ rfl ⟨fun h=>absurd h (by decide),fun _ i j hi hj=>clos_lt (hf.clos i j hi hj),trivial⟩ rfl).trans (Weak.alike (bl':=[phB,qblk i fun _=>0]) ⟨Blk.alike.refl _,⟨rfl,fun i' j hi hj=>hf.done i' j hi hj⟩,trivial⟩)
def rowSum (X : Nat → Rat) (G : Nat → Nat → Rat) : Nat → Nat → Rat
  | 0,_=>0
  | i+1,j=>rowSum X G i j+X i*G i j
theorem times_ok {n m : Nat} {X : Nat → Rat} {G : Nat → Nat → Rat} (hn : n ≤ 1048576) (hm : m ≤ 1048576) (hX : ∀ i, i < n → qlen (X i) ≤ QS) (hG : ∀ i j, i < n → j < m → qlen (G i j) ≤ QS) (hS : ∀ i j, i < n → j < m → qlen (rowSum X G i j) ≤ QS) :
    FnOK Tryz.prog true 120 [.c (qrow n X),.c (.row 1 n fun i _=>qrow m (G i)),.c (.int .i64 m)] (.c (qrow m (rowSum X G n))):=by
  have hQ:=QS_lim
  refine fn_ok (E:=E1) E1_ok Tryz.func120 rfl mixed (by kernel_rfl) (by kernel_rfl) ?_
  conv=>whnf
  refine .inl ⟨[],true,?_⟩
  conv=>whnf
  refine⟨0,phB,[.c (.int .i64 m)],_,_,_,zeros_m hm,rfl,.inr (Nat.le_refl 2),fun h=>absurd h (by decide),fun h=>absurd h (by decide),fun F hF=>?_,rfl,rfl,?_⟩
  · simp at hF;subst hF;exact qblk_plain _ _
  conv=>whnf
  refine loop_inv (fun k σ=>∃ i:Nat,k=n-i/\i≤n/\σ=⟨asg [(0,.c (qrow n X)),(1,.c (.row 1 n fun i _=>qrow m (G i))),(7,.c (.gs 1 0)),(12,.c (.int .i64 n)),(13,.c (.int .i64 i))],[phB,qblk m (rowSum X G i)]⟩) n ?_ ?_
  · refine⟨_,Weak.cut (tl:=[(0,.c (qrow n X)),(1,.c (.row 1 n fun i _=>qrow m (G i))),(7,.c (.gs 1 0)),(12,.c (.int .i64 n)),(13,.c (.int .i64 0))]) (bl':=[phB,qblk m (rowSum X G 0)]) rfl ⟨rfl,rfl,rfl,rfl,rfl,trivial⟩ rfl ⟨fun h=>absurd h (by decide),fun _ i j _ hj=>qblk_lt _ _ _ i j hj,trivial⟩ rfl,0,rfl,by omega,rfl⟩
  · rintro k σ' ⟨i,hk,hi,rfl⟩
    conv=>whnf
    refine bcase (fun(h:decide ((i:Int)<n)=true)=>?_) fun(h:decide ((i:Int)<n)=false)=>?_
    · have h:=of_decide_eq_true h
      have hin:i<n:=by omega
      conv=>whnf
      refine⟨by omega,by show((i:Nat):Int)<(n:Int);omega,?_⟩
      conv=>whnf
      refine⟨_,nonzero_ok (q:=ofR (X i)) (ofR_fit (hX i hin)) (by omega),?_⟩
      conv=>whnf
      refine bcase (fun(h2:decide ((ofR (X i)).val≠0)=true)=>?_) fun(h2:decide ((ofR (X i)).val≠0)=false)=>?_
      · conv=>whnf
        refine⟨by omega,by show((i:Nat):Int)<(n:Int);omega,?_⟩
        conv=>whnf
        refine⟨by omega,by show((i:Nat):Int)<(n:Int);omega,?_⟩
        conv=>whnf
        refine⟨1,qblk m (rowSum X G i),[.c (.gs 0 0),.c (qrow m (G i)),.g (nq (X i)),.c (.int .i64 0)],.c .any,_,combine_m hm (hS i · hin) (hG i · hin) (hX i hin),rfl,rfl,qblk_plain _ _,qblk_plain _ _,rfl,rfl,rfl,⟨_,List.Mem.head _,rfl⟩,rfl,rfl,?_⟩
        conv=>whnf
        refine⟨i64_range (by omega) (by omega),?_⟩
        conv=>whnf
        refine⟨n-(i+1),by omega,_,Weak.cut (tl:=[(0,.c (qrow n X)),(1,.c (.row 1 n fun i _=>qrow m (G i))),(7,.c (.gs 1 0)),(12,.c (.int .i64 n)),(13,.c (.int .i64 (i+1:Nat)))]) (bl':=[phB,qblk m (rowSum X G (i+1))]) rfl ⟨rfl,rfl,rfl,rfl,rfl,trivial⟩ rfl ⟨fun h=>absurd h (by decide),fun _ i j _ hj=>qblk_lt _ _ _ i j hj,trivial⟩ rfl,i+1,rfl,by omega,rfl⟩
      · have h2:X i=0:=by have:=of_decide_eq_false h2;rw[ofR_val]at this;exact Decidable.not_not.1 this
        conv=>whnf
        refine⟨i64_range (by omega) (by omega),?_⟩
        conv=>whnf
        refine⟨n-(i+1),by omega,_,(Weak.cut (tl:=[(0,.c (qrow n X)),(1,.c (.row 1 n fun i _=>qrow m (G i))),(7,.c (.gs 1 0)),(12,.c (.int .i64 n)),(13,.c (.int .i64 (i+1:Nat)))]) (bl':=[phB,qblk m (rowSum X G i)]) rfl ⟨rfl,rfl,rfl,rfl,rfl,trivial⟩ rfl ⟨fun h=>absurd h (by decide),fun _ i j _ hj=>qblk_lt _ _ _ i j hj,trivial⟩ rfl).trans (Weak.alike (bl':=[phB,qblk m (rowSum X G (i+1))]) ⟨Blk.alike.refl _,mid_alike fun j _=>?_,trivial⟩),i+1,rfl,by omega,rfl⟩
        show rowSum X G i j+X i*G i j=rowSum X G i j
        rw[h2,Rat.zero_mul,Rat.add_zero]
    · have h:=of_decide_eq_false h
      obtain rfl:i=n:=by omega
      conv=>whnf
      refine⟨fun i' j _ hj=>rr_clos _ _ hj,?_⟩
      conv=>whnf
      exact⟨rfl,Sub.refl _⟩
end Go.Proofs.YtkmbnldginonbaaGreat
/- Matrices: rows put one behind the other. -/
namespace Go.Proofs.YtkmbnldginonbaaGreat
open Go.RowKit
def flat (m:Nat) (G:Nat->Nat->Rat) (x:Nat):Rat:=G (x / m) (x%m)
def qmat (n m:Nat) (G:Nat->Nat->Rat):V := .g [.int .i64 n,.int .i64 m,qrow (n*m) (flat m G)]
def qblkU (u n:Nat) (A:Nat->Rat):Blk:=⟨38,4,n,u,0,fun i j=>(nq (A i)).getD j .any⟩
theorem rr_one (bl:List Blk) (q:RawR) (j:Nat) (h:j<4):St.one bl ((rr q).getD j .any)=true:=by
  match j,h with
  | 0,_=>rfl
  | 1,_=>rfl
  | 2,_=>rfl
  | 3,_=>rfl
theorem rr_noU (q:RawR) (j:Nat) (h:j<4):((rr q).getD j .any).noU=true:=by
  match j,h with
  | 0,_=>rfl
  | 1,_=>rfl
  | 2,_=>rfl
  | 3,_=>rfl
theorem flat_app {i m u:Nat} {G:Nat->Nat->Rat}:Blk.alike ⟨38,4,i*m+m,u,0,appF (i*m) (qblkU u (i*m) (flat m G)).f fun a b=>(nq (G i a)).getD b .any⟩ (qblkU u ((i+1)*m) (flat m G)):=by
  have e:i*m+m=(i+1)*m:=by rw[Nat.succ_mul]
  refine⟨by unfold qblkU;rw[e],fun x j hx hj=>?_⟩
  have hx:x<i*m+m:=hx
  show appF (i*m) (qblkU u (i*m) (flat m G)).f (fun a b=>(nq (G i a)).getD b .any) x j=(nq (flat m G x)).getD j .any
  unfold appF
  by_cases h:x<i*m
  · rw[if_pos h];rfl
  · rw[if_neg h]
    obtain⟨d,rfl⟩:=Nat.exists_eq_add_of_le (show i*m≤x by omega)
    have hm:0<m:=by omega
    have q1:(i*m+d) / m=i:=by rw[Nat.mul_comm,Nat.mul_add_div hm,Nat.div_eq_of_lt (by omega)];rfl
    have q2:(i*m+d)%m=d:=by rw[Nat.mul_comm,Nat.mul_add_mod,Nat.mod_eq_of_lt (by omega)]
    unfold flat
    rw[q1,q2,Nat.add_sub_cancel_left]
theorem store_ok {n m:Nat} {G:Nat->Nat->Rat} (hn:n≤1024) (hm:m≤1024):FnOK Tryz.prog true 108 [.c (.int .i64 m),.c (.row 1 n fun i _=>qrow m (G i))] (qmat n m G):=by
  refine fn_ok (E:=E1) E1_ok Tryz.func108 rfl mixed (by kernel_rfl) (by kernel_rfl) ?_
  conv=>whnf
  refine loop_inv (fun k σ=>∃ i:Nat,k=n-i/\i≤n/\σ=⟨asg [(4,.c (.p 0 0 3 0 0)),(5,.c (.p 1 0 3 0 0)),(12,.c (.row 1 n fun i _=>qrow m (G i))),(13,.c (.int .i64 n)),(14,.c (.int .i64 i))],[⟨24,3,1,0,0,boxF [.int .i64 0,.int .i64 0,.nil]⟩,⟨24,3,1,0,0,boxF [.int .i64 n,.int .i64 m,.gs 2 0]⟩,qblkU 0 (i*m) (flat m G)]⟩) n ?_ ?_
  · refine⟨_,(Weak.cut (tl:=[(4,.c (.p 0 0 3 0 0)),(5,.c (.p 1 0 3 0 0)),(12,.c (.row 1 n fun i _=>qrow m (G i))),(13,.c (.int .i64 n)),(14,.c (.int .i64 0))]) (bl':=[⟨24,3,1,0,0,boxF [.int .i64 0,.int .i64 0,.nil]⟩,⟨24,3,1,0,0,updF (boxF [.int .i64 0,.int .i64 0,.nil]) 0 0 [.int .i64 n,.int .i64 m,.nil]⟩]) rfl ⟨rfl,rfl,rfl,rfl,rfl,trivial⟩ rfl ⟨fun _ i j _ hj=>?_,fun _ i j (hi:i<1) hj=>?_,trivial⟩ rfl).trans ((Weak.nil (tm:=asg [(4,.c (.p 0 0 3 0 0)),(5,.c (.p 1 0 3 0 0)),(12,.c (.row 1 n fun i _=>qrow m (G i))),(13,.c (.int .i64 n)),(14,.c (.int .i64 0))]) (bl:=[⟨24,3,1,0,0,boxF [.int .i64 0,.int .i64 0,.nil]⟩,⟨24,3,1,0,0,updF (boxF [.int .i64 0,.int .i64 0,.nil]) 0 0 [.int .i64 n,.int .i64 m,.nil]⟩]) (tm':=asg [(4,.c (.p 0 0 3 0 0)),(5,.c (.p 1 0 3 0 0)),(12,.c (.row 1 n fun i _=>qrow m (G i))),(13,.c (.int .i64 n)),(14,.c (.int .i64 0))]) (bl':=[⟨24,3,1,0,0,boxF [.int .i64 0,.int .i64 0,.nil]⟩,⟨24,3,1,0,0,boxF [.int .i64 n,.int .i64 m,.gs 2 0]⟩]) 38 4 ⟨Blk.nilLike.refl _ _,⟨rfl,fun h=>absurd rfl h,fun i j hi hj=>?_⟩,trivial⟩ fun t => .inl rfl).trans (Weak.alike (bl':=[_,_,qblkU 0 (0*m) (flat m G)]) ⟨Blk.alike.refl _,Blk.alike.refl _,⟨by unfold qblkU;rw[Nat.zero_mul],fun i j hi hj=>?_⟩,trivial⟩)),0,rfl,by omega,rfl⟩
    · match j,hj with
      | 0,_=>rfl
      | 1,_=>rfl
      | 2,_=>rfl
    · obtain rfl:i=0:=by omega
      match j,hj with
      | 0,_=>rfl
      | 1,_=>rfl
      | 2,_=>rfl
    · obtain rfl : i = 0 := by have hi : i < 1 := hi
                               omega
      match j,hj with
      | 0,_=>exact .inl rfl
      | 1,_=>exact .inl rfl
      | 2,_=>exact .inr ⟨rfl,rfl⟩
    · have hi:i<0:=hi
      omega
  · rintro k σ' ⟨i,hk,hi,rfl⟩
    conv=>whnf
    refine bcase (fun(h:decide ((i:Int)<n)=true)=>?_) fun(h:decide ((i:Int)<n)=false)=>?_
    · have h:=of_decide_eq_true h
      have hin:i<n:=by omega
      have hle:i*m+m≤1024*1024:=by
        have:=Nat.mul_le_mul (show i+1≤1024 by omega) hm
        rw[Nat.succ_mul]at this;omega
      conv=>whnf
      refine⟨by omega,by show((i:Nat):Int)<(n:Int);omega,?_⟩
      conv=>whnf
      refine⟨by show i*m+m≤16777216;omega,fun a b _ hb=>⟨rr_one _ _ _ hb,fun _=>rr_noU _ _ hb⟩,?_⟩
      conv=>whnf
      refine⟨i64_range (by omega) (by omega),?_⟩
      conv=>whnf
      have hac:∀ a b,b<4->(appF (i*m) (qblkU 0 (i*m) (flat m G)).f (fun a b=>(nq (G i a)).getD b .any) a b).clos=true:=fun a b hb=>by
        unfold appF
        split
        · exact rr_clos _ _ hb
        · exact rr_clos _ _ hb
      refine⟨n-(i+1),by omega,_,(Weak.cut (tl:=[(4,.c (.p 0 0 3 0 0)),(5,.c (.p 1 0 3 0 0)),(12,.c (.row 1 n fun i _=>qrow m (G i))),(13,.c (.int .i64 n)),(14,.c (.int .i64 ((i+1:Nat):Int)))]) (bl':=[⟨24,3,1,0,0,boxF [.int .i64 0,.int .i64 0,.nil]⟩,⟨24,3,1,0,0,updF (boxF [.int .i64 n,.int .i64 m,.gs 2 0]) 0 2 [.gs 2 1]⟩,⟨38,4,i*m+m,1,0,appF (i*m) (qblkU 0 (i*m) (flat m G)).f fun a b=>(nq (G i a)).getD b .any⟩]) rfl ⟨rfl,rfl,rfl,rfl,rfl,trivial⟩ rfl ⟨fun _ i j _ hj=>?_,fun _ i j (hi:i<1) hj=>?_,fun _ i j _ hj=>clos_lt (hac i j hj),trivial⟩ rfl).trans ((Weak.reset (m0:=0) 2 (B:=⟨38,4,i*m+m,1,0,appF (i*m) (qblkU 0 (i*m) (flat m G)).f fun a b=>(nq (G i a)).getD b .any⟩) rfl (by show 0≤1;omega) rfl).trans ((Weak.cut (tl:=[(4,.c (.p 0 0 3 0 0)),(5,.c (.p 1 0 3 0 0)),(12,.c (.row 1 n fun i _=>qrow m (G i))),(13,.c (.int .i64 n)),(14,.c (.int .i64 ((i+1:Nat):Int)))]) (bl':=[⟨24,3,1,0,0,fun x y=>resetC 2 1 (boxF [.int .i64 0,.int .i64 0,.nil] x y)⟩,⟨24,3,1,0,0,fun x y=>resetC 2 1 (updF (boxF [.int .i64 n,.int .i64 m,.gs 2 0]) 0 2 [.gs 2 1] x y)⟩,⟨38,4,i*m+m,0,0,fun x y=>resetC 2 1 ((appF (i*m) (qblkU 0 (i*m) (flat m G)).f (fun a b=>(nq (G i a)).getD b .any)) x y)⟩]) rfl ⟨rfl,rfl,rfl,rfl,rfl,trivial⟩ rfl ⟨fun _ i j _ hj=>?_,fun _ i j (hi:i<1) hj=>?_,fun _ i j _ hj=>?_,trivial⟩ rfl).trans (Weak.alike (bl':=[⟨24,3,1,0,0,boxF [.int .i64 0,.int .i64 0,.nil]⟩,⟨24,3,1,0,0,boxF [.int .i64 n,.int .i64 m,.gs 2 0]⟩,qblkU 0 ((i+1)*m) (flat m G)]) ⟨⟨rfl,fun x y _ hy=>?_⟩,⟨rfl,fun x y (hx:x<1) hy=>?_⟩,⟨flat_app.1,fun x y hx hy=>?_⟩,trivial⟩))),i+1,rfl,by omega,rfl⟩
      · match j,hj with
        | 0,_=>rfl
        | 1,_=>rfl
        | 2,_=>rfl
      · obtain rfl:i=0:=by omega
        match j,hj with
        | 0,_=>rfl
        | 1,_=>rfl
        | 2,_=>rfl
      · match j,hj with
        | 0,_=>rfl
        | 1,_=>rfl
        | 2,_=>rfl
      · obtain rfl:i=0:=by omega
        match j,hj with
        | 0,_=>rfl
        | 1,_=>rfl
        | 2,_=>rfl
      · exact clos_lt (show(resetC 2 1 _).clos=true by rw[resetC_clos (hac i j hj)];exact hac i j hj)
      · match y,hy with
        | 0,_=>rfl
        | 1,_=>rfl
        | 2,_=>rfl
      · obtain rfl:x=0:=by omega
        match y,hy with
        | 0,_=>rfl
        | 1,_=>rfl
        | 2,_=>rfl
      · exact(resetC_clos (hac x y hy)).trans ((flat_app (u:=0)).2 x y hx hy)
    · have h:=of_decide_eq_false h
      obtain rfl:i=n:=by omega
      conv=>whnf
      refine⟨fun _ _ _ hb=>rr_clos _ _ hb,?_⟩
      conv=>whnf
      exact⟨rfl,Sub.refl _⟩
theorem fits_ok (n:Int):FnOK Tryz.prog true 107 [.c (.int .i64 n)] (.c (.bool (decide (0≤n/\n≤1024)))):=by
  refine fn_ok (E:=E1) E1_ok Tryz.func107 rfl mixed (by kernel_rfl) (by kernel_rfl) ?_
  conv=>whnf
  refine bcase (fun(h:decide (0≤n)=true)=>?_) fun(h:decide (0≤n)=false)=>?_
  · have h:=of_decide_eq_true h
    conv=>whnf
    refine⟨rfl,Sub.bool ?_⟩
    show decide (n≤1024)=decide (0≤n/\n≤1024)
    simp[h]
  · have h:=of_decide_eq_false h
    conv=>whnf
    refine⟨rfl,Sub.bool ?_⟩
    show false=decide (0≤n/\n≤1024)
    simp[h]
theorem valid_ok {r c:Int} {len:Nat} {f:Nat->Nat->Cell}:FnOK Tryz.prog true 72 [.g [.int .i64 r,.int .i64 c,.row 4 len f]] (.c (.bool (decide ((0≤r/\r≤1024)/\(0≤c/\c≤1024)/\(len:Int)=r*c)))):=by
  refine fn_ok (E:=E1) E1_ok Tryz.func72 rfl mixed (by kernel_rfl) (by kernel_rfl) ?_
  conv=>whnf
  refine⟨_,fits_ok r,?_⟩
  conv=>whnf
  refine bcase (fun(h:decide (0≤r/\r≤1024)=true)=>?_) fun(h:decide (0≤r/\r≤1024)=false)=>?_
  · have h:=of_decide_eq_true h
    conv=>whnf
    refine⟨_,fits_ok c,?_⟩
    conv=>whnf
    refine bcase (fun(h2:decide (0≤c/\c≤1024)=true)=>?_) fun(h2:decide (0≤c/\c≤1024)=false)=>?_
    · have h2:=of_decide_eq_true h2
      have hb:r*c≤1024*1024:=Int.mul_le_mul h.2 h2.2 h2.1 (by omega)
      have h0:0≤r*c:=Int.mul_nonneg h.1 h2.1
      conv=>whnf
      refine⟨i64_range (by omega) (by omega),?_⟩
      conv=>whnf
      refine⟨rfl,Sub.bool ?_⟩
      show decide ((len:Int)=r*c)=_
      simp[h,h2]
    · have h2:=of_decide_eq_false h2
      conv=>whnf
      refine⟨rfl,Sub.bool ?_⟩
      show false=_
      simp[h2]
  · have h:=of_decide_eq_false h
    conv=>whnf
    refine⟨rfl,Sub.bool ?_⟩
    show false=_
    simp[h]
end Go.Proofs.YtkmbnldginonbaaGreat
/- Package charpoly: the first errors. -/
namespace Go.Proofs.YtkmbnldginonbaaGreat
open Go.RowKit
def firstErr (r c len:Int):Int:=if((0≤r/\r≤1024)/\(0≤c/\c≤1024)/\len=r*c)/\r=c then(if r > 64 then 7 else 0)else 4
theorem check_ok {r c:Int} {len:Nat} {f:Nat->Nat->Cell}:FnOK Tryz.prog true 38 [.g [.int .i64 r,.int .i64 c,.row 4 len f]] (.c (.int .i64 (firstErr r c len))):=by
  refine fn_ok (E:=E1) E1_ok Tryz.func38 rfl mixed (by kernel_rfl) (by kernel_rfl) ?_
  conv=>whnf
  refine⟨_,valid_ok (r:=r) (c:=c) (len:=len) (f:=f),?_⟩
  conv=>whnf
  refine bcase (fun h=>?_) fun h=>?_
  · have h:(!decide ((0≤r/\r≤1024)/\(0≤c/\c≤1024)/\(len:Int)=r*c))=false:=gwf h
    have hv:(0≤r/\r≤1024)/\(0≤c/\c≤1024)/\(len:Int)=r*c:=by simpa using h
    conv=>whnf
    refine bcase (fun(h2:(!decide (r=c))=true)=>?_) fun(h2:(!decide (r=c))=false)=>?_
    · have h2:r≠c:=by simpa using h2
      conv=>whnf
      refine⟨rfl,Sub.int ?_⟩
      unfold firstErr;rw[if_neg (fun h=>h2 h.2)]
    · have h2:r=c:=by simpa using h2
      conv=>whnf
      refine bcase (fun(h3:decide (r > 64)=true)=>?_) fun(h3:decide (r > 64)=false)=>?_
      · have h3:=of_decide_eq_true h3
        conv=>whnf
        refine⟨rfl,Sub.int ?_⟩
        unfold firstErr;rw[if_pos ⟨hv,h2⟩,if_pos h3]
      · have h3:=of_decide_eq_false h3
        conv=>whnf
        refine⟨rfl,Sub.int ?_⟩
        unfold firstErr;rw[if_pos ⟨hv,h2⟩,if_neg h3]
  · have h:(!decide ((0≤r/\r≤1024)/\(0≤c/\c≤1024)/\(len:Int)=r*c))=true:=gwf' h
    have hv:¬((0≤r/\r≤1024)/\(0≤c/\c≤1024)/\(len:Int)=r*c):=by
      intro hh;rw[decide_eq_true hh]at h;cases h
    conv=>whnf
    refine⟨rfl,Sub.int ?_⟩
    unfold firstErr;rw[if_neg (fun h=>hv h.1)]
end Go.Proofs.YtkmbnldginonbaaGreat
/- Rows of rows: blank. -/
namespace Go.Proofs.YtkmbnldginonbaaGreat
open Go.RowKit
def gridF (i:Nat) (R:Nat->Cell) (x _y:Nat):Cell:=if x<i then R x else .nil
def gblk (n i:Nat) (R:Nat->Cell):Blk:=⟨22,1,n,0,0,gridF i R⟩
theorem gridF_clos {i:Nat} {R:Nat->Cell} (hR:∀ x,(R x).clos=true) (x y:Nat):(gridF i R x y).clos=true:=by
  unfold gridF;split
  · exact hR x
  · rfl
theorem gblk_clos (n m i x y:Nat):((gblk n i fun _=>qrow m fun _=>0).f x y).clos=true:=gridF_clos (i:=i) (R:=fun _=>qrow m fun _=>0) (fun _=>rfl) x y
theorem blank_ok {n m:Nat} (hn:n≤1048576) (hm:m≤1048576):FnOK Tryz.prog true 109 [.c (.int .i64 n),.c (.int .i64 m)] (.c (.row 1 n fun _ _=>qrow m fun _=>0)):=by
  refine fn_ok (E:=E1) E1_ok Tryz.func109 rfl mixed (by kernel_rfl) (by kernel_rfl) ?_
  conv=>whnf
  refine⟨by omega,by omega,by omega,by show((24:Nat):Int)*(n:Int)≤_;omega,?_⟩
  conv=>whnf
  refine loop_inv (fun k σ=>∃ i:Nat,k=n-i/\i≤n/\σ=⟨asg [(1,.c (.int .i64 m)),(5,.c (.gs 0 0)),(10,.c (.int .i64 n)),(11,.c (.int .i64 i))],[gblk n i fun _=>qrow m fun _=>0]⟩) n ?_ ?_
  · refine⟨_,(Weak.cut (tl:=[(1,.c (.int .i64 m)),(5,.c (.gs 0 0)),(10,.c (.int .i64 n)),(11,.c (.int .i64 0))]) (bl':=[⟨22,1,n,0,0,zeroF [.nil]⟩]) rfl ⟨rfl,rfl,rfl,rfl,trivial⟩ rfl ⟨fun _ i j _ hj=>?_,trivial⟩ rfl).trans (Weak.alike (bl':=[gblk n 0 fun _=>qrow m fun _=>0]) ⟨⟨rfl,fun i j _ hj=>?_⟩,trivial⟩),0,rfl,by omega,rfl⟩
    · match j,hj with
      | 0,_=>rfl
    · match j,hj with
      | 0,_=>rfl
  · rintro k σ' ⟨i,hk,hi,rfl⟩
    conv=>whnf
    refine bcase (fun(h:decide ((i:Int)<n)=true)=>?_) fun(h:decide ((i:Int)<n)=false)=>?_
    · have h:=of_decide_eq_true h
      conv=>whnf
      refine .inl ⟨[],true,?_⟩
      conv=>whnf
      refine⟨1,phB,[.c (.int .i64 m)],_,_,_,zeros_m hm,rfl,.inr (Nat.le_refl 2),fun h=>absurd h (by decide),fun h=>absurd h (by decide),fun F hF=>?_,rfl,rfl,?_⟩
      · simp at hF;subst hF;exact qblk_plain _ _
      conv=>whnf
      refine⟨by omega,by show((i:Nat):Int)<(n:Int);omega,?_⟩
      conv=>whnf
      refine⟨i64_range (by omega) (by omega),?_⟩
      conv=>whnf
      have hup:∀ x y,(updF (gblk n i fun _=>qrow m fun _=>0).f i 0 [.gs 2 0] x y).lt 3=true:=fun x y=>by
        unfold updF
        split
        · rename_i h'
          obtain rfl:y=0:=by have:=h'.2.2;simp at this;omega
          rfl
        · exact clos_lt (gblk_clos _ _ _ x y)
      refine⟨n-(i+1),by omega,_,(Weak.cut (tl:=[(1,.c (.int .i64 m)),(5,.c (.gs 0 0)),(10,.c (.int .i64 n)),(11,.c (.int .i64 ((i+1:Nat):Int)))]) (bl':=[⟨22,1,n,0,0,updF (gblk n i fun _=>qrow m fun _=>0).f i 0 [.gs 2 0]⟩,phB,qblk m fun _=>0]) rfl ⟨rfl,rfl,rfl,rfl,trivial⟩ rfl ⟨fun _ x y _ _=>hup x y,fun h=>absurd h (by decide),fun _ i j _ hj=>qblk_lt _ _ _ i j hj,trivial⟩ rfl).trans ((Weak.freeze 2 (B:=qblk m fun _=>0) rfl rfl fun x y _ hy=>rr_clos _ _ hy).trans ((Weak.close (tm:=asg [(1,.c (.int .i64 m)),(5,.c (.gs 0 0)),(10,.c (.int .i64 n)),(11,.c (.int .i64 ((i+1:Nat):Int)))]) (bl:=[⟨22,1,n,0,0,updF (gblk n i fun _=>qrow m fun _=>0).f i 0 [.gs 2 0]⟩,phB,{ (qblk m fun _=>0)with st:=1 }]) (tm':=asg [(1,.c (.int .i64 m)),(5,.c (.gs 0 0)),(10,.c (.int .i64 n)),(11,.c (.int .i64 ((i+1:Nat):Int)))]) (bl':=[gblk n (i+1) fun _=>qrow m fun _=>0,phB,{ (qblk m fun _=>0)with st:=1 }]) ⟨⟨rfl,fun h=>absurd rfl h,fun x y hx hy=>?_⟩,Blk.closed.refl _ _,Blk.closed.refl _ _,trivial⟩ fun t => .inl rfl).trans (Weak.cut (tl:=[(1,.c (.int .i64 m)),(5,.c (.gs 0 0)),(10,.c (.int .i64 n)),(11,.c (.int .i64 ((i+1:Nat):Int)))]) (bl':=[gblk n (i+1) fun _=>qrow m fun _=>0]) rfl ⟨rfl,rfl,rfl,rfl,trivial⟩ rfl ⟨fun _ x y _ _=>clos_lt (gblk_clos _ _ _ x y),trivial⟩ rfl))),i+1,rfl,by omega,rfl⟩
      have hy:y<1:=hy
      obtain rfl:y=0:=by omega
      by_cases e:x=i
      · subst e
        right
        show gridF (x+1) (fun _=>qrow m fun _=>0) x 0=St.closeC [⟨22,1,n,0,0,updF (gblk n x fun _=>qrow m fun _=>0).f x 0 [.gs 2 0]⟩,phB,{ (qblk m fun _=>0)with st:=1 }] (updF (gblk n x fun _=>qrow m fun _=>0).f x 0 [.gs 2 0] x 0)
        have e1:updF (gblk n x fun _=>qrow m fun _=>0).f x 0 [.gs 2 0] x 0 = .gs 2 0:=by unfold updF;rw[if_pos ⟨rfl,Nat.le_refl _,by simp⟩];rfl
        rw[e1]
        unfold gridF
        rw[if_pos (by omega)]
        rfl
      · left
        show gridF (i+1) (fun _=>qrow m fun _=>0) x 0=updF (gblk n i fun _=>qrow m fun _=>0).f i 0 [.gs 2 0] x 0
        unfold updF
        rw[if_neg (fun h=>e h.1)]
        show gridF (i+1) (fun _=>qrow m fun _=>0) x 0=gridF i (fun _=>qrow m fun _=>0) x 0
        unfold gridF
        by_cases e2:x<i
        · rw[if_pos e2,if_pos (by omega)]
        · rw[if_neg e2,if_neg (by omega)]
    · have h:=of_decide_eq_false h
      obtain rfl:i=n:=by omega
      conv=>whnf
      refine⟨fun x y _ _=>gblk_clos _ _ _ x y,?_⟩
      conv=>whnf
      refine⟨rfl,Sub.row rfl fun x y hx _=>?_⟩
      show gridF i (fun _=>qrow m fun _=>0) x y=qrow m fun _=>0
      have hx:x<i:=hx
      unfold gridF;rw[if_pos hx]
end Go.Proofs.YtkmbnldginonbaaGreat
/- Package matrix: New. -/
namespace Go.Proofs.YtkmbnldginonbaaGreat
open Go.RowKit
theorem new_ok {n m:Nat} (hn:n≤1024) (hm:m≤1024):FnOK Tryz.prog true 58 [.c (.int .i64 n),.c (.int .i64 m)] (.t2 (qmat n m fun _ _=>0) (.c (.int .i64 0))):=by
  refine fn_ok (E:=E1) E1_ok Tryz.func58 rfl mixed (by kernel_rfl) (by kernel_rfl) ?_
  conv=>whnf
  refine⟨_,fits_ok n,?_⟩
  conv=>whnf
  refine bcase (fun h=>?_) fun h=>?_
  · conv=>whnf
    refine⟨_,fits_ok m,?_⟩
    conv=>whnf
    refine bcase (fun(h:(!decide ((0:Int)≤m/\(m:Int)≤1024))=true)=>?_) fun h=>?_
    · exact absurd h (by rw[decide_eq_true (⟨by omega,by omega⟩:(0:Int)≤m/\(m:Int)≤1024)];simp)
    conv=>whnf
    refine⟨_,blank_ok (n:=n) (m:=m) (by omega) (by omega),?_⟩
    conv=>whnf
    refine⟨_,store_ok (n:=n) (m:=m) (G:=fun _ _=>0) hn hm,?_⟩
    conv=>whnf
    exact⟨rfl,Sub.refl _⟩
  · have h:(!decide ((0:Int)≤n/\(n:Int)≤1024))=true:=gwf' h
    exact absurd h (by rw[decide_eq_true (⟨by omega,by omega⟩:(0:Int)≤n/\(n:Int)≤1024)];simp)
end Go.Proofs.YtkmbnldginonbaaGreat
/- Matrices in the program: rows stored. -/
set_option maxHeartbeats 16000000
namespace Go.Proofs.YtkmbnldginonbaaGreat
open Go.RowKit
namespace Rf
theorem one_ql {bl:List Blk} {c:Nat->RawR} (r:Bool) (i j:Nat) (hj:j<4):St.one bl (qlF c i j)=true/\(r=true->(qlF c i j).noU=true):=by
 match j,hj with
 | 0,_=>exact⟨rfl,fun _=>rfl⟩
 | 1,_=>exact⟨rfl,fun _=>rfl⟩
 | 2,_=>exact⟨rfl,fun _=>rfl⟩
 | 3,_=>exact⟨rfl,fun _=>rfl⟩
theorem row_in {n m i a b:Nat} {G:Nat->Nat->Rat} (hi:i<n) (ha:a<i*m+m):appF (i*m) (qlF fun k=>ofR (G (k / m) (k%m))) (qlF fun k=>ofR (G i k)) a b=qlF (fun k=>ofR (G (k / m) (k%m))) a b:=by
 unfold appF
 split
 ·rfl
 ·rename_i h
  obtain⟨j,rfl⟩:∃ j,a=i*m+j:=⟨a-i*m,by omega⟩
  obtain⟨_,e2,e3⟩:=mat_idx hi (show j<m by omega)
  refine qlF_eq ?_
  rw[e2,e3,show i*m+j-i*m=j by omega]
theorem store_ok {n m:Nat} {G:Nat->Nat->Rat} (hn:n≤64) (hm:m≤64):FnOK Tryz.prog true 108 [.c (.int .i64 m),.c (rowsC n m G)] (.g (matL n m G)):=by
 have hnm:∀ i,i≤n->i*m≤4096:=fun i hi=>Nat.le_trans (Nat.mul_le_mul (show i≤64 by omega) hm) (by decide)
 refine fn_ok (E:=E1) E1_ok Tryz.func108 rfl mixed (by kernel_rfl) (by kernel_rfl) ?_
 conv=>whnf
 refine loop_ints (fun i:Nat=>gst [(4,.c (.p 0 0 3 0 0)),(5,.c (.p 1 0 3 0 0)),(12,.c (rowsC n m G)),(13,.c (.int .i64 n)),(14,.c (.int .i64 i))] [⟨24,3,1,boxF [.int .i64 0,.int .i64 0,.nil]⟩,⟨24,3,1,boxF [.int .i64 n,.int .i64 m,.gs 2 0]⟩,gqr (i*m) fun k=>ofR (G (k / m) (k%m))]) (fun i=>n-i) (fun i=>i≤n) 0 rfl ?_ (Nat.zero_le _) fun i hi=>?_
 ·refine Weak.gen [some 0,some 1,none] rfl ⟨boxK rfl rfl,⟨_,rfl,rfl,rfl,rfl,rfl,fun a b ha hb=>by
   obtain rfl:=Nat.lt_one_iff.1 ha
   match b,hb with
   | 0,_=>exact⟨_,rfl,rfl⟩
   | 1,_=>exact⟨_,rfl,rfl⟩
   | 2,_=>exact rfl⟩,Nat.zero_mul m,trivial⟩ ⟨⟨_,rfl,rfl,rfl⟩,⟨_,rfl,rfl,rfl⟩,.inl ⟨_,_,rfl,rfl,fun _ _ _ _=>rfl⟩,⟨_,rfl,rfl⟩,⟨_,rfl,rfl⟩,trivial⟩
 have e1:=hnm i hi
 conv=>whnf
 refine bcase (fun(h:decide ((i:Int)<n)=true)=>?_) fun(h:decide ((i:Int)<n)=false)=>?_
 ·have h:=of_decide_eq_true h
  have hin:i<n:=by omega
  conv=>whnf
  refine⟨by omega,by omega,?_⟩
  conv=>whnf
  refine⟨by show i*m+m≤16777216;omega,fun a b ha hb=>one_ql (c:=fun k=>ofR (G i k)) _ a b hb,?_⟩
  conv=>whnf
  refine⟨i64 (by omega) (by omega),?_⟩
  conv=>whnf
  exact⟨i+1,by omega,Weak.gen [some 0,some 1,some 2] rfl ⟨boxK rfl rfl,⟨_,rfl,rfl,rfl,rfl,rfl,fun a b ha hb=>by
   obtain rfl:=Nat.lt_one_iff.1 ha
   match b,hb with
   | 0,_=>exact⟨_,rfl,rfl⟩
   | 1,_=>exact⟨_,rfl,rfl⟩
   | 2,_=>exact⟨_,rfl,rfl,rfl⟩⟩,⟨_,rfl,rfl,rfl,(Nat.succ_mul i m).symm,rfl,fun a b ha hb=>regE (row_in hin (by have ha:a<(i+1)*m:=ha;rwa [Nat.succ_mul]at ha)) (ql_clos (c:=fun k=>ofR (G (k / m) (k%m))) a b)⟩,trivial⟩ ⟨⟨_,rfl,rfl,rfl⟩,⟨_,rfl,rfl,rfl⟩,.inl ⟨_,_,rfl,rfl,fun _ _ _ _=>rfl⟩,⟨_,rfl,rfl⟩,⟨_,rfl,rfl⟩,trivial⟩,by omega⟩
 ·have h:=of_decide_eq_false h
  have e:i=n:=by omega
  have g:Sub (.g [.int .i64 n,.int .i64 m,.row 4 (i*m) (qlF fun k=>ofR (G (k / m) (k%m)))]) (.g (matL n m G)):=by rw[e];exact Sub.refl _
  conv=>whnf
  refine⟨fun a b _ _=>ql_clos (c:=fun k=>ofR (G (k / m) (k%m))) a b,?_⟩
  conv=>whnf
  exact⟨rfl,g⟩
end Rf
end Go.Proofs.YtkmbnldginonbaaGreat
/- Matrices in the program: rows loaded. -/
namespace Go.Proofs.YtkmbnldginonbaaGreat
open Go.RowKit
namespace Rf
structure Grd (m : Nat) (G : Nat → Nat → Rat) (F C : Nat → Nat → Cell) : Prop where
 old:∀ i k,k<i->F i k=nql m (G k)
 new:∀ i k,i≤k->F i k = .nil
 old':∀ i k,k<i->C i k=nql m (G k)
 at':∀ i,C i i = .gs 2 0
 new':∀ i k,i<k->C i k = .nil
theorem grd (m:Nat) (G:Nat->Nat->Rat):∃ F C,Grd m G F C :=
 ⟨fun i k=>if k<i then nql m (G k)else .nil,fun i k=>if k<i then nql m (G k)else if k=i then .gs 2 0 else .nil,
  fun _ _ h=>if_pos h,fun _ _ h=>if_neg (by omega),fun _ _ h=>if_pos h,fun i=>by
   show(if i<i then _ else if i=i then _ else _)=_
   rw[if_neg (Nat.lt_irrefl i),if_pos rfl],fun i k h=>by
   show(if k<i then _ else if k=i then _ else _)=_
   rw[if_neg (by omega),if_neg (by omega)]⟩
abbrev gGrid (n:Nat) (f:Nat->Cell):Gx:=⟨22,1,n,fun k _=>f k⟩
theorem cell_keep {q:Nat} {bl:List Blk} {ks:List (Option Nat)} {m i:Nat} {G:Nat->Nat->Rat} {F C:Nat->Nat->Cell} (hg:Grd m G F C) (k:Nat) {g:Nat->Cell} (hgs:regC q bl ks (.gs 2 0) fun y=>Cell.gs 2 0=y) (e:g=C i):regC q bl ks (C i k) fun y=>g k=y:=by
 subst e
 rcases Nat.lt_trichotomy k i with c | c | c
 ·rw[hg.old' i k c];exact regE rfl rfl
 ·subst c;rw[hg.at'];exact hgs
 ·rw[hg.new' i k c];exact regE rfl rfl
end Rf
end Go.Proofs.YtkmbnldginonbaaGreat
/- Matrices in the program: from rows; the matrix of a multiplication. -/
namespace Go.Proofs.YtkmbnldginonbaaGreat
open Go.RowKit
namespace Rf
end Rf
end Go.Proofs.YtkmbnldginonbaaGreat
/- Matrices in the program, whatever fractions their elements are: rows loaded. -/
namespace Go.Proofs.YtkmbnldginonbaaGreat
open Go.RowKit
namespace Rf
theorem loadR_ok {n m:Nat} {q:Nat->RawR} {G:Nat->Nat->Rat} (hn:n≤64) (hm:m≤64) (hq:∀ k,k<n*m->(q k).Fit KD) (hG:∀ i j,i<n->j<m->(q (i*m+j)).val=G i j):FnOK Tryz.prog true 111 [.g (rmat n m q)] (.c (rowsC n m G)):=by
 obtain⟨F,C,hg⟩:=grd m G
 have hnm:∀ i,i≤n->(i:Int)*(m:Int)=((i*m:Nat):Int)/\i*m≤4096:=fun i hi=>⟨by rw[Int.natCast_mul],Nat.le_trans (Nat.mul_le_mul (show i≤64 by omega) hm) (by decide)⟩
 have n1:∀ i j,i<n->j<m->FnOK Tryz.prog true 73 [.g (rr (q ((i:Int)*(m:Int)+(j:Int)).toNat))] (.g (nq (G i j))):=fun i j hi hj=>by
  have e1:=(hnm i (by omega)).1
  rw[show((i:Int)*(m:Int)+(j:Int)).toNat=i*m+j by rw[e1];omega,← hG i j hi hj]
  exact qnormal_ok (hq _ (mat_idx hi hj).1) (by decide)
 clear hq hG
 refine fn_okS (E:=E1) E1_ok Tryz.func111 rfl (by kernel_rfl) ?_
 refine swp_seq0 E1_ok mixed (by kernel_rfl) ?_
 conv=>whnf
 refine swp_seq0 E1_ok mixed (by kernel_rfl) ?_
 conv=>whnf
 refine⟨by omega,Int.le_refl _,by omega,by show(24:Int)*(n:Int)≤281474976710656;omega,?_⟩
 conv=>whnf
 refine swp_seqS ?_
 refine swp_seq0 E1_ok mixed (by kernel_rfl) ?_
 conv=>whnf
 refine swp_block ?_
 refine swp_loop (fun i:Nat=>gst [(1,.c (.p 0 0 3 0 0)),(3,.c (.gs 1 0)),(10,.c (.int .i64 n)),(11,.c (.int .i64 i))] [⟨24,3,1,boxF (rmat n m q)⟩,gGrid n (F i)]) (fun i=>n-i) (fun i=>i≤n) 0 ?_ (Nat.zero_le _) fun i hi=>?_
 ·refine Weak.gen [some 0,some 1] rfl ⟨boxK rfl rfl,⟨_,rfl,rfl,rfl,by show Int.toNat n=n;omega,rfl,fun k j hk hj=>?_⟩,trivial⟩ ⟨⟨_,rfl,rfl,rfl⟩,⟨_,rfl,rfl,rfl⟩,⟨_,rfl,by show(Int.toNat n:Int)=n;omega⟩,⟨_,rfl,rfl⟩,trivial⟩
  obtain rfl:=Nat.lt_one_iff.1 hj
  show regC 0 _ _ (F 0 k) _
  rw[hg.new 0 k (Nat.zero_le k)]
  exact⟨rfl,rfl⟩
 have n1:=n1 i
 obtain⟨e1,e2⟩:=hnm i hi
 have e3:=fun(a:i<n) (j:Nat) (b:j<m)=>(mat_idx a b).1
 refine swp_seq0 E1_ok mixed (by kernel_rfl) ?_
 conv=>whnf
 refine swp_seq0 E1_ok mixed (by kernel_rfl) ?_
 conv=>whnf
 refine bcase (fun(h:decide ((i:Int)<n)=true)=>?_) fun(h:decide ((i:Int)<n)=false)=>?_
 ·have h:=of_decide_eq_true h
  conv=>whnf
  refine swp_seqS (swp_block ?_)
  refine swp_seq0 E1_ok mixed (by kernel_rfl) ?_
  conv=>whnf
  refine swp_seq E1_ok mixed (by kernel_rfl) ?_
  conv=>whnf
  refine⟨by omega,Int.le_refl _,by omega,by show(64:Int)*(m:Int)≤281474976710656;omega,?_⟩
  conv=>whnf
  refine⟨by omega,by show(i:Int)<(n:Int);omega,?_⟩
  conv=>whnf
  refine⟨gst [(1,.c (.p 0 0 3 0 0)),(3,.c (.gs 1 0)),(4,.c (.int .i64 i)),(10,.c (.int .i64 n)),(11,.c (.int .i64 i))] [⟨24,3,1,boxF (rmat n m q)⟩,gGrid n (C i),gqr m (rmid (G i) 0)],Weak.gen [some 0,some 1,some 2] rfl ⟨boxK rfl rfl,⟨_,rfl,rfl,rfl,rfl,rfl,fun k j hk hj=>?_⟩,⟨_,rfl,rfl,rfl,by show Int.toNat m=m;omega,rfl,fun k j hk hj=>?_⟩,trivial⟩ ⟨⟨_,rfl,rfl,rfl⟩,⟨_,rfl,rfl,rfl⟩,⟨_,rfl,rfl⟩,⟨_,rfl,rfl⟩,⟨_,rfl,rfl⟩,trivial⟩,?_⟩
  ·obtain rfl:=Nat.lt_one_iff.1 hj
   show regC 0 _ _ (C i k) fun z=>updF (fun k _=>F i k) i 0 [.gs 2 0] k 0=z
   rcases Nat.lt_trichotomy k i with c | c | c
   ·rw[hg.old' i k c,show updF (fun k _=>F i k) i 0 [.gs 2 0] k 0=nql m (G k)from(if_neg (fun h=>by have:=h.1;omega)).trans (hg.old i k c)]
    exact regE rfl rfl
   ·subst c
    rw[hg.at',show updF (fun j _=>F k j) k 0 [.gs 2 0] k 0 = .gs 2 0 from if_pos ⟨rfl,Nat.le_refl 0,by decide⟩]
    exact⟨_,rfl,rfl,rfl⟩
   ·rw[hg.new' i k c,show updF (fun k _=>F i k) i 0 [.gs 2 0] k 0 = .nil from(if_neg (fun h=>by have:=h.1;omega)).trans (hg.new i k (by omega))]
    exact⟨rfl,rfl⟩
  ·show regC 0 _ _ (qlF (rmid (G i) 0) k j) _
   rw[rmid_zero]
   match j,hj with
   | 0,_=>exact⟨_,rfl,rfl⟩
   | 1,_=>exact .inr (.inl ⟨rfl,rfl⟩)
   | 2,_=>exact⟨_,rfl,rfl⟩
   | 3,_=>exact .inr (.inl ⟨rfl,rfl⟩)
  have hCi:C i (i:Int).toNat = .gs 2 0:=hg.at' i
  refine swp_seq E1_ok mixed (by kernel_rfl) ?_
  conv=>whnf
  refine⟨by omega,by show(i:Int)<(n:Int);omega,?_⟩
  conv=>whnf
  conv =>
   pattern lenA _ _
   change lenA _ (V.c (C i (i:Int).toNat))
   rw[hCi]
  conv=>whnf
  refine⟨gst [(1,.c (.p 0 0 3 0 0)),(3,.c (.gs 1 0)),(4,.c (.int .i64 i)),(10,.c (.int .i64 n)),(11,.c (.int .i64 i)),(24,.c (.int .i64 m)),(25,.c (.int .i64 0))] [⟨24,3,1,boxF (rmat n m q)⟩,gGrid n (C i),gqr m (rmid (G i) 0)],Weak.gen [some 0,some 1,some 2] rfl ⟨boxK rfl rfl,⟨_,rfl,rfl,rfl,rfl,rfl,fun k j hk hj=>cell_keep hg k ⟨_,rfl,rfl,rfl⟩ rfl⟩,⟨_,rfl,rfl,rfl,rfl,rfl,fun k j hk hj=>regE rfl (ql_clos (c:=rmid (G i) 0) k j)⟩,trivial⟩ ⟨⟨_,rfl,rfl,rfl⟩,⟨_,rfl,rfl,rfl⟩,⟨_,rfl,rfl⟩,⟨_,rfl,rfl⟩,⟨_,rfl,rfl⟩,⟨_,rfl,rfl⟩,⟨_,rfl,rfl⟩,trivial⟩,?_⟩
  refine swp_of E1_ok mixed (by kernel_rfl) ?_
  conv=>whnf
  refine loop_ints (fun j:Nat=>gst [(1,.c (.p 0 0 3 0 0)),(3,.c (.gs 1 0)),(4,.c (.int .i64 i)),(10,.c (.int .i64 n)),(11,.c (.int .i64 i)),(24,.c (.int .i64 m)),(25,.c (.int .i64 j))] [⟨24,3,1,boxF (rmat n m q)⟩,gGrid n (C i),gqr m (rmid (G i) j)]) (fun j=>m-j) (fun j=>j≤m) 0 rfl (Weak.gen [some 0,some 1,some 2] rfl ⟨boxK rfl rfl,⟨_,rfl,rfl,rfl,rfl,rfl,fun k j hk hj=>cell_keep hg k ⟨_,rfl,rfl,rfl⟩ rfl⟩,⟨_,rfl,rfl,rfl,rfl,rfl,fun k j hk hj=>regE rfl (ql_clos (c:=rmid (G i) 0) k j)⟩,trivial⟩ ⟨⟨_,rfl,rfl,rfl⟩,⟨_,rfl,rfl,rfl⟩,⟨_,rfl,rfl⟩,⟨_,rfl,rfl⟩,⟨_,rfl,rfl⟩,⟨_,rfl,rfl⟩,⟨_,rfl,rfl⟩,trivial⟩) (Nat.zero_le _) fun j hj=>?_
  have n1:=fun a=>n1 j (by omega) a
  have e3:=fun a=>e3 (by omega) j a
  conv=>whnf
  refine bcase (fun(h1:decide ((j:Int)<m)=true)=>?_) fun(h1:decide ((j:Int)<m)=false)=>?_
  ·have h1:=of_decide_eq_true h1
   have n1:=n1 (by omega)
   have e3:=e3 (by omega)
   conv=>whnf
   refine⟨by omega,by show(i:Int)<(n:Int);omega,?_⟩
   conv=>whnf
   refine⟨i64 (by rw[e1];omega) (by rw[e1];omega),?_⟩
   conv=>whnf
   refine⟨i64 (by rw[e1];omega) (by rw[e1];omega),?_⟩
   conv=>whnf
   refine⟨by rw[e1];omega,by show(i:Int)*(m:Int)+(j:Int)<((n*m:Nat):Int);rw[e1];omega,?_⟩
   conv=>whnf
   refine⟨_,n1,?_⟩
   conv=>whnf
   refine⟨by omega,?_⟩
   conv =>
    pattern St.ev _ (Operand.tmp 31)
    change V.c (C i (i:Int).toNat)
    rw[hCi]
   conv=>whnf
   refine⟨by show(j:Int)<(m:Int);omega,?_⟩
   conv=>whnf
   refine⟨i64 (by omega) (by omega),?_⟩
   conv=>whnf
   refine⟨j+1,by omega,Weak.gen [some 0,some 1,some 2] rfl ⟨boxK rfl rfl,⟨_,rfl,rfl,rfl,rfl,rfl,fun k j hk hj=>cell_keep hg k ⟨_,rfl,rfl,rfl⟩ rfl⟩,⟨_,rfl,rfl,rfl,rfl,rfl,fun a b ha hb=>regE ?_ (ql_clos (c:=rmid (G i) (j+1)) a b)⟩,trivial⟩ ⟨⟨_,rfl,rfl,rfl⟩,⟨_,rfl,rfl,rfl⟩,⟨_,rfl,rfl⟩,⟨_,rfl,rfl⟩,⟨_,rfl,rfl⟩,⟨_,rfl,rfl⟩,⟨_,rfl,rfl⟩,trivial⟩,by omega⟩
   exact updG (sz:=4) (g:=fun k=>rr (rmid (G i) j k)) (g':=fun k=>rr (rmid (G i) (j+1) k)) (l:=nq (G i j)) rfl hb (rmid_next (G i) j a)
  ·have h1:=of_decide_eq_false h1
   have ej:j=m:=by omega
   conv=>whnf
   refine swp_of E1_ok mixed (by kernel_rfl) ?_
   conv=>whnf
   refine⟨i64 (by omega) (by omega),?_⟩
   conv=>whnf
   refine⟨i+1,by omega,Weak.gen [some 0,some 1] rfl ⟨boxK rfl rfl,⟨_,rfl,rfl,rfl,rfl,rfl,fun k l hk hl=>?_⟩,trivial⟩ ⟨⟨_,rfl,rfl,rfl⟩,⟨_,rfl,rfl,rfl⟩,⟨_,rfl,rfl⟩,⟨_,rfl,rfl⟩,trivial⟩,by omega⟩
   obtain rfl:=Nat.lt_one_iff.1 hl
   show regC 0 _ _ (F (i+1) k) fun z=>C i k=z
   rcases Nat.lt_trichotomy k i with c | c | c
   ·rw[hg.old (i+1) k (by omega),hg.old' i k c]
    exact regE rfl rfl
   ·subst c
    rw[hg.old (k+1) k (by omega),hg.at']
    exact .inr (.inr ⟨2,_,rfl,rfl,rfl,rfl,Nat.zero_le _,rfl,rfl,fun a b ha hb=>⟨qlF_eq (c:=rmid (G k) j) (e:=fun a=>ofR (G k a)) (i:=a) (k:=a) (rmid_all (by omega)),ql_clos (c:=fun a=>ofR (G k a)) a b⟩⟩)
   ·rw[hg.new (i+1) k (by omega),hg.new' i k c]
    exact⟨rfl,rfl⟩
 ·have h:=of_decide_eq_false h
  have e:i=n:=by omega
  conv=>whnf
  have g:Sub (.c (.row 1 n fun k _=>F i k)) (.c (rowsC n m G)):=subRowG rfl fun k j hk hj=>hg.old i k (by omega)
  refine swp_of E1_ok mixed (by kernel_rfl) ?_
  conv=>whnf
  refine⟨fun a b ha hb=>by show(F i a).clos=true;rw[hg.old i a (Nat.lt_of_lt_of_le ha (show n≤i by omega))];rfl,?_⟩
  conv=>whnf
  exact⟨rfl,g⟩
theorem loadR_s {n m:Nat} {q:Nat->RawR} {G:Nat->Nat->Rat} (hn:n≤64) (hm:m≤64) (hq:∀ k,k<n*m->(q k).Fit KD) (hG:∀ i j,i<n->j<m->(q (i*m+j)).val=G i j):FnS Tryz.prog true 111 [] [.g (rmat n m q)] (.c (.gs 0 0)) [gb (gGrid n fun i=>nql m (G i))]:=by
 obtain⟨F,C,hg⟩:=grd m G
 have hnm:∀ i,i≤n->(i:Int)*(m:Int)=((i*m:Nat):Int)/\i*m≤4096:=fun i hi=>⟨by rw[Int.natCast_mul],Nat.le_trans (Nat.mul_le_mul (show i≤64 by omega) hm) (by decide)⟩
 have n1:∀ i j,i<n->j<m->FnOK Tryz.prog true 73 [.g (rr (q ((i:Int)*(m:Int)+(j:Int)).toNat))] (.g (nq (G i j))):=fun i j hi hj=>by
  have e1:=(hnm i (by omega)).1
  rw[show((i:Int)*(m:Int)+(j:Int)).toNat=i*m+j by rw[e1];omega,← hG i j hi hj]
  exact qnormal_ok (hq _ (mat_idx hi hj).1) (by decide)
 clear hq hG
 refine fns_okS (E:=E1) E1_ok Tryz.func111 rfl (by kernel_rfl) rfl ?_
 refine swp_seq0 E1_ok mixed (by kernel_rfl) ?_
 conv=>whnf
 refine swp_seq0 E1_ok mixed (by kernel_rfl) ?_
 conv=>whnf
 refine⟨by omega,Int.le_refl _,by omega,by show(24:Int)*(n:Int)≤281474976710656;omega,?_⟩
 conv=>whnf
 refine swp_seqS ?_
 refine swp_seq0 E1_ok mixed (by kernel_rfl) ?_
 conv=>whnf
 refine swp_block ?_
 refine swp_loop (fun i:Nat=>gst [(1,.c (.p 0 0 3 0 0)),(3,.c (.gs 1 0)),(10,.c (.int .i64 n)),(11,.c (.int .i64 i))] [⟨24,3,1,boxF (rmat n m q)⟩,gGrid n (F i)]) (fun i=>n-i) (fun i=>i≤n) 0 ?_ (Nat.zero_le _) fun i hi=>?_
 ·refine Weak.gen [some 0,some 1] rfl ⟨boxK rfl rfl,⟨_,rfl,rfl,rfl,by show Int.toNat n=n;omega,rfl,fun k j hk hj=>?_⟩,trivial⟩ ⟨⟨_,rfl,rfl,rfl⟩,⟨_,rfl,rfl,rfl⟩,⟨_,rfl,by show(Int.toNat n:Int)=n;omega⟩,⟨_,rfl,rfl⟩,trivial⟩
  obtain rfl:=Nat.lt_one_iff.1 hj
  show regC 0 _ _ (F 0 k) _
  rw[hg.new 0 k (Nat.zero_le k)]
  exact⟨rfl,rfl⟩
 have n1:=n1 i
 obtain⟨e1,e2⟩:=hnm i hi
 have e3:=fun(a:i<n) (j:Nat) (b:j<m)=>(mat_idx a b).1
 refine swp_seq0 E1_ok mixed (by kernel_rfl) ?_
 conv=>whnf
 refine swp_seq0 E1_ok mixed (by kernel_rfl) ?_
 conv=>whnf
 refine bcase (fun(h:decide ((i:Int)<n)=true)=>?_) fun(h:decide ((i:Int)<n)=false)=>?_
 ·have h:=of_decide_eq_true h
  conv=>whnf
  refine swp_seqS (swp_block ?_)
  refine swp_seq0 E1_ok mixed (by kernel_rfl) ?_
  conv=>whnf
  refine swp_seq E1_ok mixed (by kernel_rfl) ?_
  conv=>whnf
  refine⟨by omega,Int.le_refl _,by omega,by show(64:Int)*(m:Int)≤281474976710656;omega,?_⟩
  conv=>whnf
  refine⟨by omega,by show(i:Int)<(n:Int);omega,?_⟩
  conv=>whnf
  refine⟨gst [(1,.c (.p 0 0 3 0 0)),(3,.c (.gs 1 0)),(4,.c (.int .i64 i)),(10,.c (.int .i64 n)),(11,.c (.int .i64 i))] [⟨24,3,1,boxF (rmat n m q)⟩,gGrid n (C i),gqr m (rmid (G i) 0)],Weak.gen [some 0,some 1,some 2] rfl ⟨boxK rfl rfl,⟨_,rfl,rfl,rfl,rfl,rfl,fun k j hk hj=>?_⟩,⟨_,rfl,rfl,rfl,by show Int.toNat m=m;omega,rfl,fun k j hk hj=>?_⟩,trivial⟩ ⟨⟨_,rfl,rfl,rfl⟩,⟨_,rfl,rfl,rfl⟩,⟨_,rfl,rfl⟩,⟨_,rfl,rfl⟩,⟨_,rfl,rfl⟩,trivial⟩,?_⟩
  ·obtain rfl:=Nat.lt_one_iff.1 hj
   show regC 0 _ _ (C i k) fun z=>updF (fun k _=>F i k) i 0 [.gs 2 0] k 0=z
   rcases Nat.lt_trichotomy k i with c | c | c
   ·rw[hg.old' i k c,show updF (fun k _=>F i k) i 0 [.gs 2 0] k 0=nql m (G k)from(if_neg (fun h=>by have:=h.1;omega)).trans (hg.old i k c)]
    exact regE rfl rfl
   ·subst c
    rw[hg.at',show updF (fun j _=>F k j) k 0 [.gs 2 0] k 0 = .gs 2 0 from if_pos ⟨rfl,Nat.le_refl 0,by decide⟩]
    exact⟨_,rfl,rfl,rfl⟩
   ·rw[hg.new' i k c,show updF (fun k _=>F i k) i 0 [.gs 2 0] k 0 = .nil from(if_neg (fun h=>by have:=h.1;omega)).trans (hg.new i k (by omega))]
    exact⟨rfl,rfl⟩
  ·show regC 0 _ _ (qlF (rmid (G i) 0) k j) _
   rw[rmid_zero]
   match j,hj with
   | 0,_=>exact⟨_,rfl,rfl⟩
   | 1,_=>exact .inr (.inl ⟨rfl,rfl⟩)
   | 2,_=>exact⟨_,rfl,rfl⟩
   | 3,_=>exact .inr (.inl ⟨rfl,rfl⟩)
  have hCi:C i (i:Int).toNat = .gs 2 0:=hg.at' i
  refine swp_seq E1_ok mixed (by kernel_rfl) ?_
  conv=>whnf
  refine⟨by omega,by show(i:Int)<(n:Int);omega,?_⟩
  conv=>whnf
  conv =>
   pattern lenA _ _
   change lenA _ (V.c (C i (i:Int).toNat))
   rw[hCi]
  conv=>whnf
  refine⟨gst [(1,.c (.p 0 0 3 0 0)),(3,.c (.gs 1 0)),(4,.c (.int .i64 i)),(10,.c (.int .i64 n)),(11,.c (.int .i64 i)),(24,.c (.int .i64 m)),(25,.c (.int .i64 0))] [⟨24,3,1,boxF (rmat n m q)⟩,gGrid n (C i),gqr m (rmid (G i) 0)],Weak.gen [some 0,some 1,some 2] rfl ⟨boxK rfl rfl,⟨_,rfl,rfl,rfl,rfl,rfl,fun k j hk hj=>cell_keep hg k ⟨_,rfl,rfl,rfl⟩ rfl⟩,⟨_,rfl,rfl,rfl,rfl,rfl,fun k j hk hj=>regE rfl (ql_clos (c:=rmid (G i) 0) k j)⟩,trivial⟩ ⟨⟨_,rfl,rfl,rfl⟩,⟨_,rfl,rfl,rfl⟩,⟨_,rfl,rfl⟩,⟨_,rfl,rfl⟩,⟨_,rfl,rfl⟩,⟨_,rfl,rfl⟩,⟨_,rfl,rfl⟩,trivial⟩,?_⟩
  refine swp_of E1_ok mixed (by kernel_rfl) ?_
  conv=>whnf
  refine loop_ints (fun j:Nat=>gst [(1,.c (.p 0 0 3 0 0)),(3,.c (.gs 1 0)),(4,.c (.int .i64 i)),(10,.c (.int .i64 n)),(11,.c (.int .i64 i)),(24,.c (.int .i64 m)),(25,.c (.int .i64 j))] [⟨24,3,1,boxF (rmat n m q)⟩,gGrid n (C i),gqr m (rmid (G i) j)]) (fun j=>m-j) (fun j=>j≤m) 0 rfl (Weak.gen [some 0,some 1,some 2] rfl ⟨boxK rfl rfl,⟨_,rfl,rfl,rfl,rfl,rfl,fun k j hk hj=>cell_keep hg k ⟨_,rfl,rfl,rfl⟩ rfl⟩,⟨_,rfl,rfl,rfl,rfl,rfl,fun k j hk hj=>regE rfl (ql_clos (c:=rmid (G i) 0) k j)⟩,trivial⟩ ⟨⟨_,rfl,rfl,rfl⟩,⟨_,rfl,rfl,rfl⟩,⟨_,rfl,rfl⟩,⟨_,rfl,rfl⟩,⟨_,rfl,rfl⟩,⟨_,rfl,rfl⟩,⟨_,rfl,rfl⟩,trivial⟩) (Nat.zero_le _) fun j hj=>?_
  have n1:=fun a=>n1 j (by omega) a
  have e3:=fun a=>e3 (by omega) j a
  conv=>whnf
  refine bcase (fun(h1:decide ((j:Int)<m)=true)=>?_) fun(h1:decide ((j:Int)<m)=false)=>?_
  ·have h1:=of_decide_eq_true h1
   have n1:=n1 (by omega)
   have e3:=e3 (by omega)
   conv=>whnf
   refine⟨by omega,by show(i:Int)<(n:Int);omega,?_⟩
   conv=>whnf
   refine⟨i64 (by rw[e1];omega) (by rw[e1];omega),?_⟩
   conv=>whnf
   refine⟨i64 (by rw[e1];omega) (by rw[e1];omega),?_⟩
   conv=>whnf
   refine⟨by rw[e1];omega,by show(i:Int)*(m:Int)+(j:Int)<((n*m:Nat):Int);rw[e1];omega,?_⟩
   conv=>whnf
   refine⟨_,n1,?_⟩
   conv=>whnf
   refine⟨by omega,?_⟩
   conv =>
    pattern St.ev _ (Operand.tmp 31)
    change V.c (C i (i:Int).toNat)
    rw[hCi]
   conv=>whnf
   refine⟨by show(j:Int)<(m:Int);omega,?_⟩
   conv=>whnf
   refine⟨i64 (by omega) (by omega),?_⟩
   conv=>whnf
   refine⟨j+1,by omega,Weak.gen [some 0,some 1,some 2] rfl ⟨boxK rfl rfl,⟨_,rfl,rfl,rfl,rfl,rfl,fun k j hk hj=>cell_keep hg k ⟨_,rfl,rfl,rfl⟩ rfl⟩,⟨_,rfl,rfl,rfl,rfl,rfl,fun a b ha hb=>regE ?_ (ql_clos (c:=rmid (G i) (j+1)) a b)⟩,trivial⟩ ⟨⟨_,rfl,rfl,rfl⟩,⟨_,rfl,rfl,rfl⟩,⟨_,rfl,rfl⟩,⟨_,rfl,rfl⟩,⟨_,rfl,rfl⟩,⟨_,rfl,rfl⟩,⟨_,rfl,rfl⟩,trivial⟩,by omega⟩
   exact updG (sz:=4) (g:=fun k=>rr (rmid (G i) j k)) (g':=fun k=>rr (rmid (G i) (j+1) k)) (l:=nq (G i j)) rfl hb (rmid_next (G i) j a)
  ·have h1:=of_decide_eq_false h1
   have ej:j=m:=by omega
   conv=>whnf
   refine swp_of E1_ok mixed (by kernel_rfl) ?_
   conv=>whnf
   refine⟨i64 (by omega) (by omega),?_⟩
   conv=>whnf
   refine⟨i+1,by omega,Weak.gen [some 0,some 1] rfl ⟨boxK rfl rfl,⟨_,rfl,rfl,rfl,rfl,rfl,fun k l hk hl=>?_⟩,trivial⟩ ⟨⟨_,rfl,rfl,rfl⟩,⟨_,rfl,rfl,rfl⟩,⟨_,rfl,rfl⟩,⟨_,rfl,rfl⟩,trivial⟩,by omega⟩
   obtain rfl:=Nat.lt_one_iff.1 hl
   show regC 0 _ _ (F (i+1) k) fun z=>C i k=z
   rcases Nat.lt_trichotomy k i with c | c | c
   ·rw[hg.old (i+1) k (by omega),hg.old' i k c]
    exact regE rfl rfl
   ·subst c
    rw[hg.old (k+1) k (by omega),hg.at']
    exact .inr (.inr ⟨2,_,rfl,rfl,rfl,rfl,Nat.zero_le _,rfl,rfl,fun a b ha hb=>⟨qlF_eq (c:=rmid (G k) j) (e:=fun a=>ofR (G k a)) (i:=a) (k:=a) (rmid_all (by omega)),ql_clos (c:=fun a=>ofR (G k a)) a b⟩⟩)
   ·rw[hg.new (i+1) k (by omega),hg.new' i k c]
    exact⟨rfl,rfl⟩
 ·have h:=of_decide_eq_false h
  have e:i=n:=by omega
  conv=>whnf
  refine swp_of E1_ok mixed (by kernel_rfl) ?_
  conv=>whnf
  refine(show Weak 0 ⟨_,_⟩ (gst [(0,.c (.gs 0 0))] [gGrid n fun i=>nql m (G i)])from Weak.gen [some 1] rfl ⟨⟨_,rfl,rfl,rfl,rfl,rfl,fun k j hk hj=>?_⟩,trivial⟩ ⟨⟨_,rfl,rfl,rfl⟩,trivial⟩)
  show regC 0 _ _ (nql m (G k)) fun z=>F i k=z
  rw[hg.old i k (by have hk:k<n:=hk;omega)]
  exact regE rfl rfl
end Rf
end Go.Proofs.YtkmbnldginonbaaGreat
/- Matrices in the program, whatever fractions their elements are: products. -/
namespace Go.Proofs.YtkmbnldginonbaaGreat
open Go.RowKit
namespace Rf
theorem valid_yes {n m:Nat} {q:Nat->RawR} (hn:n≤1024) (hm:m≤1024):FnOK Tryz.prog true 72 [.g (rmat n m q)] (.c (.bool true)):=by
 have h:=valid_ok (r:=n) (c:=m) (len:=n*m) (f:=qlF q)
 rwa [decide_eq_true (⟨⟨by omega,by omega⟩,⟨by omega,by omega⟩,by rw[Int.natCast_mul]⟩:((0:Int)≤n/\(n:Int)≤1024)/\((0:Int)≤m/\(m:Int)≤1024)/\((n*m:Nat):Int)=(n:Int)*m)]at h
theorem rowSum_su (X : Nat → Rat) (G : Nat → Nat → Rat) : ∀ i j, rowSum X G i j = sumR X G i j
 | 0,_=>rfl
 | i+1,j=>by
  show rowSum X G i j+X i*G i j=Q.su (fun a=>X a*G a j) i+X i*G i j
  rw[rowSum_su X G i j]
abbrev mid2L (m k i r:Nat):Nat:=if r<i then m else k
abbrev mid2F (P A:Nat->Nat->Rat) (i r:Nat):Nat->Rat:=if r<i then P r else A r
theorem if_next {α:Type} {i r:Nat} (e:r≠i) (x y:α):(if r<i+1 then x else y)=if r<i then x else y:=by
 by_cases c:r<i
 ·rw[if_pos c,if_pos (by omega)]
 ·rw[if_neg c,if_neg (by omega)]
theorem mid2_at {q:Nat} {bl:List Blk} {ks:List (Option Nat)} {m k i:Nat} {P A:Nat->Nat->Rat} {F:Nat->Nat->Cell} (hF:∀ r,F r 0=nql (mid2L m k i r) (mid2F P A i r)) (r b:Nat) (hb:b<1):regC q bl ks (nql (mid2L m k (i+1) r) (mid2F P A (i+1) r)) fun z=>updF F i 0 [nql m (P i)] r b=z:=by
 obtain rfl:=Nat.lt_one_iff.1 hb
 by_cases e:r=i
 ·subst e
  rw[show updF F r 0 [nql m (P r)] r 0=nql m (P r)from if_pos ⟨rfl,Nat.le_refl 0,by simp⟩,show mid2L m k (r+1) r=m from if_pos (Nat.lt_succ_self r),show mid2F P A (r+1) r=P r from if_pos (Nat.lt_succ_self r)]
  exact regE rfl rfl
 ·rw[show updF F i 0 [nql m (P i)] r 0=F r 0 from if_neg fun h=>e h.1,hF]
  rw[show mid2L m k (i+1) r=mid2L m k i r from if_next e _ _,show mid2F P A (i+1) r=mid2F P A i r from if_next e _ _]
  exact regE rfl rfl
theorem mulR_ok {n k m:Nat} {q p:Nat->RawR} {A B:Nat->Nat->Rat} (hn:n≤64) (hk:k≤64) (hm:m≤64) (hq:∀ a,a<n*k->(q a).Fit KD) (hqv:∀ i j,i<n->j<k->(q (i*k+j)).val=A i j) (hp:∀ a,a<k*m->(p a).Fit KD) (hpv:∀ i j,i<k->j<m->(p (i*m+j)).val=B i j) (hA:∀ i j,i<n->j<k->qlen (A i j)≤KD) (hB:∀ i j,i<k->j<m->qlen (B i j)≤KD) (hS:∀ r i j,r<n->i≤k->j<m->qlen (sumR (A r) B i j)≤KD):FnOK Tryz.prog true 78 [.g (rmat n k q),.g (rmat k m p)] (.t2 (.g (matL n m fun r=>sumR (A r) B k)) (.c (.int .i64 0))):=by
 have v1:=valid_yes (n:=n) (m:=k) (q:=q) (by omega) (by omega)
 have v2:=valid_yes (n:=k) (m:=m) (q:=p) (by omega) (by omega)
 have l1:=loadR_s hn hk hq hqv
 have l2:=loadR_s hk hm hp hpv
 have hQ:KD≤QS:=by decide
 have t0:∀ i,i<n->FnOK Tryz.prog true 120 [.c (nql k (A i)),.c (rowsC k m B),.c (.int .i64 m)] (.c (nql m (sumR (A i) B k))):=fun i hi=>by
  have h:=times_ok (n:=k) (m:=m) (X:=A i) (G:=B) (by omega) (by omega) (fun j hj=>Nat.le_trans (hA i j hi hj) hQ) (fun a b ha hb=>Nat.le_trans (hB a b ha hb) hQ) fun a b ha hb=>by
   rw[rowSum_su]
   exact Nat.le_trans (hS i a b hi (by omega) hb) hQ
  have e:rowSum (A i) B k=sumR (A i) B k:=funext fun j=>rowSum_su (A i) B k j
  rw[e]at h
  exact h
 have s0:=store_ok (n:=n) (m:=m) (G:=fun r=>sumR (A r) B k) hn hm
 obtain⟨P,hP⟩:∃ P:Nat->Nat->Rat,P=fun r=>sumR (A r) B k:=⟨_,rfl⟩
 rw[← hP]at s0 ⊢
 have t0:∀ i,i<n->FnOK Tryz.prog true 120 [.c (nql (mid2L m k i (i:Int).toNat) (mid2F P A i (i:Int).toNat)),.c (rowsC k m B),.c (.int .i64 m)] (.c (nql m (P i))):=fun i hi=>by
  rw[show(i:Int).toNat=i by omega,show mid2L m k i i=k from if_neg (Nat.lt_irrefl i),show mid2F P A i i=A i from if_neg (Nat.lt_irrefl i),hP]
  exact t0 i hi
 have s0:∀ i,i=n->FnOK Tryz.prog true 108 [.c (.int .i64 m),.c (.row 1 n fun r _=>nql (mid2L m k i r) (mid2F P A i r))] (.g (matL n m P)):=fun i e=>by
  refine arg_ok s0 fun D w vs h=>?_
  match vs,h with
  | [a,b],⟨h1,h2,_⟩ =>
   refine⟨h1,subRowG rfl (fun r j hr hj=>?_) D w b h2,trivial⟩
   show nql (mid2L m k i r) (mid2F P A i r)=nql m (P r)
   rw[show mid2L m k i r=m from if_pos (by omega),show mid2F P A i r=P r from if_pos (by omega)]
 clear hq hqv hp hpv hA hB hS hP
 refine fn_ok (E:=E1) E1_ok Tryz.func78 rfl mixed (by kernel_rfl) (by kernel_rfl) ?_
 conv=>whnf
 refine⟨_,v1,?_⟩
 conv=>whnf
 refine⟨_,v2,?_⟩
 conv=>whnf
 refine bneg (show(!decide ((k:Int)=k))=false by simp) ?_
 conv=>whnf
 refine .inl ⟨_,_,l1,rfl,fun _ _ _ _ _=>rfl,rfl,rfl,?_⟩
 conv=>whnf
 refine .inl ⟨_,_,l2,rfl,fun _ _ _ _ _=>rfl,rfl,rfl,?_⟩
 conv=>whnf
 refine loop_ints (fun i:Nat=>gst [(3,.c (.p 0 0 3 0 0)),(4,.c (.p 1 0 3 0 0)),(6,.c (.gs 2 0)),(7,.c (rowsC k m B)),(30,.c (.int .i64 n)),(31,.c (.int .i64 i))] [⟨24,3,1,boxF (rmat k m p)⟩,⟨24,3,1,boxF [.int .i64 0,.int .i64 0,.nil]⟩,⟨22,1,n,fun r _=>nql (mid2L m k i r) (mid2F P A i r)⟩]) (fun i=>n-i) (fun i=>i≤n) 0 rfl ?_ (Nat.zero_le _) fun i hi=>?_
 ·exact Weak.gen [some 1,some 2,some 4] rfl ⟨boxK rfl rfl,boxK rfl rfl,⟨_,rfl,rfl,rfl,rfl,rfl,fun a b ha hb=>regE rfl rfl⟩,trivial⟩ ⟨⟨_,rfl,rfl,rfl⟩,⟨_,rfl,rfl,rfl⟩,⟨_,rfl,rfl,rfl⟩,.inr (.inr ⟨6,_,rfl,rfl,rfl,rfl,Nat.zero_le _,rfl,rfl,fun _ _ _ _=>⟨rfl,rfl⟩⟩),⟨_,rfl,rfl⟩,⟨_,rfl,rfl⟩,trivial⟩
 have t0:=t0 i
 have s0:=s0 i
 conv=>whnf
 refine bcase (fun(h:decide ((i:Int)<n)=true)=>?_) fun(h:decide ((i:Int)<n)=false)=>?_
 ·have h:=of_decide_eq_true h
  have t0:=t0 (by omega)
  conv=>whnf
  refine⟨by omega,by omega,?_⟩
  conv=>whnf
  refine⟨_,t0,?_⟩
  conv=>whnf
  refine⟨by omega,by omega,?_⟩
  conv=>whnf
  refine⟨i64 (by omega) (by omega),?_⟩
  conv=>whnf
  exact⟨i+1,by omega,Weak.gen [some 0,some 1,some 2] rfl ⟨boxK rfl rfl,boxK rfl rfl,⟨_,rfl,rfl,rfl,rfl,rfl,fun a b ha hb=>mid2_at (fun _=>rfl) a b hb⟩,trivial⟩ ⟨⟨_,rfl,rfl,rfl⟩,⟨_,rfl,rfl,rfl⟩,⟨_,rfl,rfl,rfl⟩,.inl ⟨_,_,rfl,rfl,fun _ _ _ _=>rfl⟩,⟨_,rfl,rfl⟩,⟨_,rfl,rfl⟩,trivial⟩,by omega⟩
 ·have h:=of_decide_eq_false h
  have s0:=s0 (by omega)
  conv=>whnf
  refine⟨fun _ _ _ _=>rfl,?_⟩
  conv=>whnf
  refine⟨_,s0,?_⟩
  conv=>whnf
  exact⟨rfl,Sub.refl _⟩
end Rf
end Go.Proofs.YtkmbnldginonbaaGreat
/- Matrices in the program, whatever fractions their elements are: sums, multiples. -/
namespace Go.Proofs.YtkmbnldginonbaaGreat
open Go.RowKit
namespace Rf
theorem reg_box3 {q:Nat} {bl:List Blk} {ks:List (Option Nat)} {l0 l1 l2:Cell} {F:Nat->Nat->Cell} (h0:regC q bl ks l0 fun y=>F 0 0=y) (h1:regC q bl ks l1 fun y=>F 0 1=y) (h2:regC q bl ks l2 fun y=>F 0 2=y) (a b:Nat) (ha:a<1) (hb:b<3):regC q bl ks (boxF [l0,l1,l2] a b) fun y=>F a b=y:=by
 obtain rfl:=Nat.lt_one_iff.1 ha
 match b,hb with
 | 0,_=>exact h0
 | 1,_=>exact h1
 | 2,_=>exact h2
theorem each_add {n m N:Nat} {q p:Nat->RawR} {z:Nat->Rat} (hN:n*m=N) (hn:n≤64) (hm:m≤64) (call:∀ a,a<N->FnOK Tryz.prog true 93 [.g (rr (q a)),.g (rr (p a))] (.g (nq (z a)))):FnOK Tryz.prog true 121 [.g [.int .i64 n,.int .i64 m,ql N q],.g [.int .i64 n,.int .i64 m,ql N p],.c (.fn 93)] (.t2 (.g [.int .i64 n,.int .i64 m,nql N z]) (.c (.int .i64 0))):=by
 have v1:FnOK Tryz.prog true 72 [.g [.int .i64 n,.int .i64 m,ql N q]] (.c (.bool true)):=by rw[← hN];exact valid_yes (by omega) (by omega)
 have v2:FnOK Tryz.prog true 72 [.g [.int .i64 n,.int .i64 m,ql N p]] (.c (.bool true)):=by rw[← hN];exact valid_yes (by omega) (by omega)
 have hN:N≤4096:=by rw[← hN];exact Nat.le_trans (Nat.mul_le_mul hn hm) (by decide)
 clear hn hm
 have call:∀ a:Nat,a<N->FnOK Tryz.prog true 93 [.g (rr (q (a:Int).toNat)),.g (rr (p (a:Int).toNat))] (.g (nq (z a))):=fun a ha=>call a ha
 refine fn_ok (E:=E1) E1_ok Tryz.func121 rfl mixed (by kernel_rfl) (by kernel_rfl) ?_
 conv=>whnf
 refine⟨_,v1,?_⟩
 conv=>whnf
 refine⟨_,v2,?_⟩
 conv=>whnf
 refine bpos (gw_true.2 (show(!decide ((n:Int)=n))=false by simp)) ?_
 conv=>whnf
 refine bneg (show(!decide ((m:Int)=m))=false by simp) ?_
 conv=>whnf
 refine⟨by omega,Int.le_refl _,by omega,by show(64:Int)*(N:Int)≤281474976710656;omega,?_⟩
 conv=>whnf
 refine loop_ints (fun i:Nat=>gst [(2,.c (.fn 93)),(3,.c (.p 0 0 3 0 0)),(4,.c (.p 1 0 3 0 0)),(6,.c (.p 2 0 3 0 0)),(8,.c (.p 3 0 3 0 0)),(44,.c (.int .i64 N)),(45,.c (.int .i64 i))] [⟨24,3,1,boxF [.int .i64 n,.int .i64 m,ql N q]⟩,⟨24,3,1,boxF [.int .i64 n,.int .i64 m,ql N p]⟩,⟨24,3,1,boxF [.int .i64 0,.int .i64 0,.nil]⟩,⟨24,3,1,boxF [.int .i64 n,.int .i64 m,.gs 4 0]⟩,gqp N z i]) (fun i=>N-i) (fun i=>i≤N) 0 rfl ?_ (Nat.zero_le _) fun i hi=>?_
 ·refine Weak.gen [some 0,some 1,some 2,some 12,some 10] rfl ⟨boxK rfl rfl,boxK rfl rfl,boxK rfl rfl,⟨_,rfl,rfl,rfl,rfl,rfl,reg_box3 ⟨_,rfl,rfl⟩ ⟨_,rfl,rfl⟩ ⟨_,rfl,rfl,rfl⟩⟩,⟨_,rfl,rfl,rfl,by show Int.toNat N=N;omega,rfl,fun k j hk hj=>?_⟩,trivial⟩ ⟨⟨rfl,rfl⟩,⟨_,rfl,rfl,rfl⟩,⟨_,rfl,rfl,rfl⟩,⟨_,rfl,rfl,rfl⟩,⟨_,rfl,rfl,rfl⟩,⟨_,rfl,rfl⟩,⟨_,rfl,rfl⟩,trivial⟩
  ·exact regE (congrArg (fun l=>l.getD j .any) (qp_zero z k).symm) (qp_clos k j)
 have call:=call i
 conv=>whnf
 refine bcase (fun(h:decide ((i:Int)<N)=true)=>?_) fun(h:decide ((i:Int)<N)=false)=>?_
 ·have h:=of_decide_eq_true h
  have call:=call (by omega)
  conv=>whnf
  refine⟨by omega,by omega,?_⟩
  conv=>whnf
  refine⟨by omega,by omega,?_⟩
  conv=>whnf
  refine⟨_,call,?_⟩
  conv=>whnf
  refine⟨by omega,by omega,?_⟩
  conv=>whnf
  refine⟨i64 (by omega) (by omega),?_⟩
  conv=>whnf
  refine⟨i+1,by omega,Weak.gen [some 0,some 1,some 2,some 3,some 4] rfl ⟨boxK rfl rfl,boxK rfl rfl,boxK rfl rfl,⟨_,rfl,rfl,rfl,rfl,rfl,reg_box3 ⟨_,rfl,rfl⟩ ⟨_,rfl,rfl⟩ ⟨_,rfl,rfl,rfl⟩⟩,⟨_,rfl,rfl,rfl,rfl,rfl,fun j k hj hk=>regE ?_ (qp_clos j k)⟩,trivial⟩ ⟨⟨rfl,rfl⟩,⟨_,rfl,rfl,rfl⟩,⟨_,rfl,rfl,rfl⟩,⟨_,rfl,rfl,rfl⟩,⟨_,rfl,rfl,rfl⟩,⟨_,rfl,rfl⟩,⟨_,rfl,rfl⟩,trivial⟩,by omega⟩
  ·exact updG (sz:=4) (g:=qpF z i) (g':=qpF z (i+1)) (l:=nq (z i)) rfl hk (qp_next z i j)
 ·have h:=of_decide_eq_false h
  have e:i=N:=by omega
  have g:Sub (.t2 (.g [.int .i64 n,.int .i64 m,.row 4 N fun k j=>(qpF z i k).getD j .any]) (.c (.int .i64 0))) (.t2 (.g [.int .i64 n,.int .i64 m,nql N z]) (.c (.int .i64 0))):=by
   rintro D w v ⟨x,y,h1,⟨vs,h2,h3⟩,h4⟩
   refine⟨x,y,h1,⟨vs,h2,?_⟩,h4⟩
   match vs.toList,h3 with
   | [a,b,c],⟨g1,g2,g3,g4⟩=>exact⟨g1,g2,subRowG rfl (fun k j hk hj=>by rw[e];exact qp_all hk j) D w c g3,g4⟩
  conv=>whnf
  refine⟨fun k j _ _=>qp_clos k j,?_⟩
  conv=>whnf
  exact⟨rfl,g⟩
theorem each_scale {n m N:Nat} {q p:Nat->RawR} {z:Nat->Rat} {u:Nat->Cell} (hN:n*m=N) (hn:n≤64) (hm:m≤64) (call:∀ a,a<N->FnOK Tryz.prog true 122 [.g (rr (q a)),.g (rr (p a)),.c (.xp 4 u)] (.g (nq (z a)))):FnOK Tryz.prog true 121 [.g [.int .i64 n,.int .i64 m,ql N q],.g [.int .i64 n,.int .i64 m,ql N p],.c (.cl 122 1 fun _ => .xp 4 u)] (.t2 (.g [.int .i64 n,.int .i64 m,nql N z]) (.c (.int .i64 0))):=by
 have v1:FnOK Tryz.prog true 72 [.g [.int .i64 n,.int .i64 m,ql N q]] (.c (.bool true)):=by rw[← hN];exact valid_yes (by omega) (by omega)
 have v2:FnOK Tryz.prog true 72 [.g [.int .i64 n,.int .i64 m,ql N p]] (.c (.bool true)):=by rw[← hN];exact valid_yes (by omega) (by omega)
 have hN:N≤4096:=by rw[← hN];exact Nat.le_trans (Nat.mul_le_mul hn hm) (by decide)
 clear hn hm
 have call:∀ a:Nat,a<N->FnOK Tryz.prog true 122 [.g (rr (q (a:Int).toNat)),.g (rr (p (a:Int).toNat)),.c (.xp 4 u)] (.g (nq (z a))):=fun a ha=>call a ha
 refine fn_ok (E:=E1) E1_ok Tryz.func121 rfl mixed (by kernel_rfl) (by kernel_rfl) ?_
 conv=>whnf
 refine⟨_,v1,?_⟩
 conv=>whnf
 refine⟨_,v2,?_⟩
 conv=>whnf
 refine bpos (gw_true.2 (show(!decide ((n:Int)=n))=false by simp)) ?_
 conv=>whnf
 refine bneg (show(!decide ((m:Int)=m))=false by simp) ?_
 conv=>whnf
 refine⟨by omega,Int.le_refl _,by omega,by show(64:Int)*(N:Int)≤281474976710656;omega,?_⟩
 conv=>whnf
 refine loop_ints (fun i:Nat=>gst [(2,.c (.cl 122 1 fun _ => .xp 4 u)),(3,.c (.p 0 0 3 0 0)),(4,.c (.p 1 0 3 0 0)),(6,.c (.p 2 0 3 0 0)),(8,.c (.p 3 0 3 0 0)),(44,.c (.int .i64 N)),(45,.c (.int .i64 i))] [⟨24,3,1,boxF [.int .i64 n,.int .i64 m,ql N q]⟩,⟨24,3,1,boxF [.int .i64 n,.int .i64 m,ql N p]⟩,⟨24,3,1,boxF [.int .i64 0,.int .i64 0,.nil]⟩,⟨24,3,1,boxF [.int .i64 n,.int .i64 m,.gs 4 0]⟩,gqp N z i]) (fun i=>N-i) (fun i=>i≤N) 0 rfl ?_ (Nat.zero_le _) fun i hi=>?_
 ·refine Weak.gen [some 0,some 1,some 2,some 12,some 10] rfl ⟨boxK rfl rfl,boxK rfl rfl,boxK rfl rfl,⟨_,rfl,rfl,rfl,rfl,rfl,reg_box3 ⟨_,rfl,rfl⟩ ⟨_,rfl,rfl⟩ ⟨_,rfl,rfl,rfl⟩⟩,⟨_,rfl,rfl,rfl,by show Int.toNat N=N;omega,rfl,fun k j hk hj=>?_⟩,trivial⟩ ⟨⟨_,rfl,fun _ _=>⟨rfl,rfl⟩⟩,⟨_,rfl,rfl,rfl⟩,⟨_,rfl,rfl,rfl⟩,⟨_,rfl,rfl,rfl⟩,⟨_,rfl,rfl,rfl⟩,⟨_,rfl,rfl⟩,⟨_,rfl,rfl⟩,trivial⟩
  ·exact regE (congrArg (fun l=>l.getD j .any) (qp_zero z k).symm) (qp_clos k j)
 have call:=call i
 conv=>whnf
 refine bcase (fun(h:decide ((i:Int)<N)=true)=>?_) fun(h:decide ((i:Int)<N)=false)=>?_
 ·have h:=of_decide_eq_true h
  have call:=call (by omega)
  conv=>whnf
  refine⟨by omega,by omega,?_⟩
  conv=>whnf
  refine⟨by omega,by omega,?_⟩
  conv=>whnf
  refine⟨_,call,?_⟩
  conv=>whnf
  refine⟨by omega,by omega,?_⟩
  conv=>whnf
  refine⟨i64 (by omega) (by omega),?_⟩
  conv=>whnf
  refine⟨i+1,by omega,Weak.gen [some 0,some 1,some 2,some 3,some 4] rfl ⟨boxK rfl rfl,boxK rfl rfl,boxK rfl rfl,⟨_,rfl,rfl,rfl,rfl,rfl,reg_box3 ⟨_,rfl,rfl⟩ ⟨_,rfl,rfl⟩ ⟨_,rfl,rfl,rfl⟩⟩,⟨_,rfl,rfl,rfl,rfl,rfl,fun j k hj hk=>regE ?_ (qp_clos j k)⟩,trivial⟩ ⟨⟨_,rfl,fun _ _=>⟨rfl,rfl⟩⟩,⟨_,rfl,rfl,rfl⟩,⟨_,rfl,rfl,rfl⟩,⟨_,rfl,rfl,rfl⟩,⟨_,rfl,rfl,rfl⟩,⟨_,rfl,rfl⟩,⟨_,rfl,rfl⟩,trivial⟩,by omega⟩
  ·exact updG (sz:=4) (g:=qpF z i) (g':=qpF z (i+1)) (l:=nq (z i)) rfl hk (qp_next z i j)
 ·have h:=of_decide_eq_false h
  have e:i=N:=by omega
  have g:Sub (.t2 (.g [.int .i64 n,.int .i64 m,.row 4 N fun k j=>(qpF z i k).getD j .any]) (.c (.int .i64 0))) (.t2 (.g [.int .i64 n,.int .i64 m,nql N z]) (.c (.int .i64 0))):=by
   rintro D w v ⟨x,y,h1,⟨vs,h2,h3⟩,h4⟩
   refine⟨x,y,h1,⟨vs,h2,?_⟩,h4⟩
   match vs.toList,h3 with
   | [a,b,c],⟨g1,g2,g3,g4⟩=>exact⟨g1,g2,subRowG rfl (fun k j hk hj=>by rw[e];exact qp_all hk j) D w c g3,g4⟩
  conv=>whnf
  refine⟨fun k j _ _=>qp_clos k j,?_⟩
  conv=>whnf
  exact⟨rfl,g⟩
theorem cap_weak {P:Program} {r:Bool} {f F:FuncId} {a b:V} {c:Cell} {g:Nat->Cell} {X:V} (h:FnOK P r f [a,b,.c (.cl F 1 fun _=>c)] X) (hg:g 0=c):FnOK P r f [a,b,.c (.cl F 1 g)] X :=
 arg_ok h fun D w vs h=>by
  match vs,h with
  | [x,y,z],⟨h1,h2,⟨caps,e1,e2,e3⟩,_⟩ =>
   refine⟨h1,h2,⟨caps,e1,e2,fun j hj=>?_⟩,trivial⟩
   obtain rfl:=Nat.lt_one_iff.1 hj
   obtain⟨u,hu,hr⟩:=e3 0 hj
   rw[hg]at hr
   exact⟨u,hu,hr⟩
theorem scale1_ok {q p:RawR} {x:RawR} {L:Nat} (hx:x.Fit L) (hq:q.Fit L) (hL:L+L+3≤LIM):FnOK Tryz.prog true 122 [.g (rr q),.g (rr p),.c (.xp 4 fun j=>boxF (rr x) 0 (0+j))] (.g (nq (x.val*q.val))):=by
 have h:=qmul_ok hx hq hL
 refine fn_ok (E:=E1) E1_ok Tryz.func122 rfl mixed (by kernel_rfl) (by kernel_rfl) ?_
 conv=>whnf
 refine⟨_,h,?_⟩
 conv=>whnf
 exact⟨rfl,Sub.refl _⟩
theorem addR_ok {n m:Nat} {q p:Nat->RawR} {z:Nat->Rat} {L:Nat} (hn:n≤64) (hm:m≤64) (hq:∀ a,a<n*m->(q a).Fit L) (hp:∀ a,a<n*m->(p a).Fit L) (hL:L+L+4≤LIM) (hz:∀ a,a<n*m->(q a).val+(p a).val=z a):FnOK Tryz.prog true 80 [.g (rmat n m q),.g (rmat n m p)] (.t2 (.g [.int .i64 n,.int .i64 m,nql (n*m) z]) (.c (.int .i64 0))):=by
 have h:=each_add (q:=q) (p:=p) (z:=z) rfl hn hm fun a ha=>by
  rw[← hz a ha]
  exact qadd_ok (hq a ha) (hp a ha) hL
 clear hq hp hz
 refine fn_ok (E:=E1) E1_ok Tryz.func80 rfl mixed (by kernel_rfl) (by kernel_rfl) ?_
 conv=>whnf
 refine⟨_,h,?_⟩
 conv=>whnf
 exact⟨rfl,Sub.refl _⟩
theorem scaleR_ok {n m:Nat} {q:Nat->RawR} {x:RawR} {z:Nat->Rat} {L:Nat} (hn:n≤64) (hm:m≤64) (hq:∀ a,a<n*m->(q a).Fit L) (hx:x.Fit L) (hL:L+L+3≤LIM) (hz:∀ a,a<n*m->x.val*(q a).val=z a):FnOK Tryz.prog true 79 [.g (rmat n m q),.g (rr x)] (.t2 (.g [.int .i64 n,.int .i64 m,nql (n*m) z]) (.c (.int .i64 0))):=by
 have h0:=each_scale (q:=q) (p:=q) (z:=z) (u:=fun j=>boxF (rr x) 0 (0+j)) rfl hn hm fun a ha=>by
  rw[← hz a ha]
  exact scale1_ok hx (hq a ha) hL
 have h:=fun(g:Nat->Cell) (hg:g 0 = .xp 4 fun j=>boxF (rr x) 0 (0+j))=>cap_weak (g:=g) h0 hg
 clear hq hz hx
 refine fn_ok (E:=E1) E1_ok Tryz.func79 rfl mixed (by kernel_rfl) (by kernel_rfl) ?_
 conv=>whnf
 refine⟨fun i j hi hj=>box_clos (l:=rr x) (i:=i) (j:=j) rfl,?_⟩
 conv=>whnf
 refine⟨_,h _ rfl,?_⟩
 conv=>whnf
 exact⟨rfl,Sub.refl _⟩
end Rf
end Go.Proofs.YtkmbnldginonbaaGreat
/- Differences and multiples of lists of fractions in the program. -/
set_option maxHeartbeats 8000000
namespace Go.Proofs.YtkmbnldginonbaaGreat
open Go.RowKit
namespace Rf
theorem qsub_any {x y:RawR} {lx ly:List Cell} {L:Nat} {z:Rat} (h1:1≤L) (hx:x.Fit L) (hy:y.Fit L) (sx:Sub (.g lx) (.g (rr x))) (sy:Sub (.g ly) (.g (rr y))) (hL:L+L+4≤LIM) (hz:x.val-y.val=z):FnOK Tryz.prog true 50 [.g lx,.g ly] (.g (nq z)):=by
 have h:=qsub_ok hx hy h1 hL
 rw[hz]at h
 refine arg_ok h fun D w vs h=>?_
 match vs,h with
 | [v0,v1],⟨h0,h1,_⟩=>exact⟨sx D w v0 h0,sy D w v1 h1,trivial⟩
theorem qpsub_ok {n m:Nat} {q p:Nat->RawR} {L:Nat} {v:Nat->Rat} (hv:∀ i,i<max n m->Q.qx n (fun i=>(q i).val) i-Q.qx m (fun i=>(p i).val) i=v i) (hn:n≤1048576) (hm:m≤1048576) (hq:∀ i,i<n->(q i).Fit L) (hp:∀ i,i<m->(p i).Fit L) (h1L:1≤L) (hL:L+L+4≤LIM):FnOK Tryz.prog true 94 [.c (ql n q),.c (ql m p),.c (.fn 50)] (.c (nql (Q.tq v (max n m)) v)):=by
 obtain⟨M,hM⟩:∃ M,M=max n m:=⟨_,rfl⟩
 rw[← hM]at hv ⊢
 have a1:∀ i,i<M->i<n->i<m->FnOK Tryz.prog true 50 [.g (rr (q i)),.g (rr (p i))] (.g (nq (v i))):=fun i h h1 h2=>qsub_any h1L (hq i h1) (hp i h2) (Sub.refl _) (Sub.refl _) hL (by rw[← hv i h,Q.qx_lt h1,Q.qx_lt h2])
 have a2:∀ i,i<M->i<n->¬ i<m->FnOK Tryz.prog true 50 [.g (rr (q i)),.g zcells] (.g (nq (v i))):=fun i h h1 h2=>qsub_any h1L (hq i h1) (zraw_fit L) (Sub.refl _) zsub hL (by rw[← hv i h,Q.qx_lt h1,zraw_val];unfold Q.qx;rw[if_neg h2])
 have a3:∀ i,i<M->¬ i<n->i<m->FnOK Tryz.prog true 50 [.g zcells,.g (rr (p i))] (.g (nq (v i))):=fun i h h1 h2=>qsub_any h1L (zraw_fit L) (hp i h2) zsub (Sub.refl _) hL (by rw[← hv i h,Q.qx_lt h2,zraw_val];unfold Q.qx;rw[if_neg h1])
 have hMn:M≤1048576:=by omega
 have h2:=qtrim_nql (v:=v) hMn
 have eM:(if((m:Nat):Int) > ((n:Nat):Int)then((m:Nat):Int)else((n:Nat):Int))=(M:Nat):=by split <;> omega
 have eM2:(if((m:Nat):Int) > ((n:Nat):Int)then((m:Nat):Int)else((n:Nat):Int)).toNat=M:=by rw[eM];omega
 clear hv hq hp
 generalize Q.tq v M=N at *
 have hT:∀ i,i=M->FnOK Tryz.prog true 100 [.c (.row 4 M fun k j=>(qpF v i k).getD j .any)] (.c (nql N v)):=fun i e=>arg_ok h2 fun D w vs h=>by
  match vs,h with
  | [v1],⟨h1,_⟩=>exact⟨subRowG rfl (fun k j hk hj=>by rw[e];exact qp_all hk j) D w v1 h1,trivial⟩
 refine fn_ok (E:=E1) E1_ok Tryz.func94 rfl mixed (by kernel_rfl) (by kernel_rfl) ?_
 conv=>whnf
 refine⟨by rw[eM];omega,Int.le_refl _,by rw[eM];omega,by show(64:Int)*(if((m:Nat):Int) > ((n:Nat):Int)then((m:Nat):Int)else((n:Nat):Int))≤281474976710656;rw[eM];omega,?_⟩
 conv=>whnf
 refine loop_ints (fun i:Nat=>gst [(0,.c (ql n q)),(1,.c (ql m p)),(2,.c (.fn 50)),(7,.c (.gs 0 0)),(18,.c (.int .i64 M)),(19,.c (.int .i64 i))] [gqp M v i]) (fun i=>M-i) (fun i=>i≤M) 0 rfl (Weak.gen [some 0] rfl ⟨⟨_,rfl,rfl,rfl,eM2,rfl,fun k j hk hj=>?_⟩,trivial⟩ ⟨.inl ⟨_,_,rfl,rfl,fun _ _ _ _=>rfl⟩,.inl ⟨_,_,rfl,rfl,fun _ _ _ _=>rfl⟩,⟨rfl,rfl⟩,⟨_,rfl,rfl,rfl⟩,⟨_,rfl,by show((if((m:Nat):Int) > ((n:Nat):Int)then((m:Nat):Int)else((n:Nat):Int)).toNat:Int)=_;rw[eM2]⟩,⟨_,rfl,rfl⟩,trivial⟩) (Nat.zero_le _) fun i hi=>?_
 ·exact regE (congrArg (fun l=>l.getD j .any) (qp_zero v k).symm) (qp_clos k j)
 have b1:=a1 i
 have b2:=a2 i
 have b3:=a3 i
 conv=>whnf
 refine bcase (fun(h:decide ((i:Int)<M)=true)=>?_) fun(h:decide ((i:Int)<M)=false)=>?_
 ·have h:=of_decide_eq_true h
  have b1:=b1 (by omega)
  have b2:=b2 (by omega)
  have b3:=b3 (by omega)
  conv=>whnf
  refine bcase (fun(c1:decide ((i:Int)<n)=true)=>?_) fun(c1:decide ((i:Int)<n)=false)=>?_
  ·have c1:=of_decide_eq_true c1
   have b1:=b1 (by omega)
   have b2:=b2 (by omega)
   conv=>whnf
   refine⟨by omega,by omega,?_⟩
   conv=>whnf
   refine bcase (fun(c2:decide ((i:Int)<m)=true)=>?_) fun(c2:decide ((i:Int)<m)=false)=>?_
   ·have c2:=of_decide_eq_true c2
    have b1:=b1 (by omega)
    conv=>whnf
    refine⟨by omega,by omega,?_⟩
    conv=>whnf
    refine⟨_,b1,?_⟩
    conv=>whnf
    refine⟨by omega,by show(i:Int)<(M:Int);omega,?_⟩
    conv=>whnf
    refine⟨i64 (by omega) (by omega),?_⟩
    conv=>whnf
    refine⟨i+1,by omega,Weak.gen [some 0] rfl ⟨⟨_,rfl,rfl,rfl,rfl,rfl,fun j k hj hk=>regE ?_ (qp_clos j k)⟩,trivial⟩ ⟨.inl ⟨_,_,rfl,rfl,fun _ _ _ _=>rfl⟩,.inl ⟨_,_,rfl,rfl,fun _ _ _ _=>rfl⟩,⟨rfl,rfl⟩,⟨_,rfl,rfl,rfl⟩,⟨_,rfl,rfl⟩,⟨_,rfl,rfl⟩,trivial⟩,by omega⟩
    exact updG (sz:=4) (g:=qpF v i) (g':=qpF v (i+1)) (l:=nq (v i)) rfl hk (qp_next v i j)
   ·have c2:=of_decide_eq_false c2
    have b2:=b2 (by omega)
    conv=>whnf
    refine⟨_,b2,?_⟩
    conv=>whnf
    refine⟨by omega,by show(i:Int)<(M:Int);omega,?_⟩
    conv=>whnf
    refine⟨i64 (by omega) (by omega),?_⟩
    conv=>whnf
    refine⟨i+1,by omega,Weak.gen [some 0] rfl ⟨⟨_,rfl,rfl,rfl,rfl,rfl,fun j k hj hk=>regE ?_ (qp_clos j k)⟩,trivial⟩ ⟨.inl ⟨_,_,rfl,rfl,fun _ _ _ _=>rfl⟩,.inl ⟨_,_,rfl,rfl,fun _ _ _ _=>rfl⟩,⟨rfl,rfl⟩,⟨_,rfl,rfl,rfl⟩,⟨_,rfl,rfl⟩,⟨_,rfl,rfl⟩,trivial⟩,by omega⟩
    exact updG (sz:=4) (g:=qpF v i) (g':=qpF v (i+1)) (l:=nq (v i)) rfl hk (qp_next v i j)
  ·have c1:=of_decide_eq_false c1
   have c2:i<m:=by omega
   have b3:=b3 (by omega) c2
   conv=>whnf
   refine bpos (show decide ((i:Int)<m)=true from decide_eq_true (by omega)) ?_
   conv=>whnf
   refine⟨by omega,by omega,?_⟩
   conv=>whnf
   refine⟨_,b3,?_⟩
   conv=>whnf
   refine⟨by omega,by show(i:Int)<(M:Int);omega,?_⟩
   conv=>whnf
   refine⟨i64 (by omega) (by omega),?_⟩
   conv=>whnf
   refine⟨i+1,by omega,Weak.gen [some 0] rfl ⟨⟨_,rfl,rfl,rfl,rfl,rfl,fun j k hj hk=>regE ?_ (qp_clos j k)⟩,trivial⟩ ⟨.inl ⟨_,_,rfl,rfl,fun _ _ _ _=>rfl⟩,.inl ⟨_,_,rfl,rfl,fun _ _ _ _=>rfl⟩,⟨rfl,rfl⟩,⟨_,rfl,rfl,rfl⟩,⟨_,rfl,rfl⟩,⟨_,rfl,rfl⟩,trivial⟩,by omega⟩
   exact updG (sz:=4) (g:=qpF v i) (g':=qpF v (i+1)) (l:=nq (v i)) rfl hk (qp_next v i j)
 ·have h:=of_decide_eq_false h
  have g:=hT i (by omega)
  conv=>whnf
  refine .inr ⟨fun k j _ _=>qp_clos k j,?_⟩
  conv=>whnf
  refine⟨_,g,?_⟩
  conv=>whnf
  exact⟨rfl,Sub.refl _⟩
theorem qpSub_ok {n m:Nat} {q p:Nat->RawR} {L:Nat} {v:Nat->Rat} (hv:∀ i,i<max n m->Q.qx n (fun i=>(q i).val) i-Q.qx m (fun i=>(p i).val) i=v i) (hn:n≤1048576) (hm:m≤1048576) (hq:∀ i,i<n->(q i).Fit L) (hp:∀ i,i<m->(p i).Fit L) (h1L:1≤L) (hL:L+L+4≤LIM):FnOK Tryz.prog true 42 [.c (ql n q),.c (ql m p)] (.c (nql (Q.tq v (max n m)) v)):=by
 have h:=qpsub_ok hv hn hm hq hp h1L hL
 refine fn_ok (E:=E1) E1_ok Tryz.func42 rfl mixed (by kernel_rfl) (by kernel_rfl) ?_
 conv=>whnf
 refine⟨_,h,?_⟩
 conv=>whnf
 exact⟨rfl,Sub.refl _⟩
theorem merge_scale {n:Nat} {q:Nat->RawR} {z:Nat->Rat} {u:Nat->Cell} (hn:n≤1048576) (call:∀ a,a<n->FnOK Tryz.prog true 95 [.g (rr (q a)),.g zcells,.c (.xp 4 u)] (.g (nq (z a)))):FnOK Tryz.prog true 94 [.c (ql n q),.c .nil,.c (.cl 95 1 fun _ => .xp 4 u)] (.c (nql (Q.tq z n) z)):=by
 have h2:=qtrim_nql (v:=z) hn
 have eM:(if((0:Nat):Int) > ((n:Nat):Int)then((0:Nat):Int)else((n:Nat):Int))=(n:Nat):=by split <;> omega
 have eM2:(if((0:Nat):Int) > ((n:Nat):Int)then((0:Nat):Int)else((n:Nat):Int)).toNat=n:=by rw[eM];omega
 generalize Q.tq z n=N at *
 have hT:∀ i,i=n->FnOK Tryz.prog true 100 [.c (.row 4 n fun k j=>(qpF z i k).getD j .any)] (.c (nql N z)):=fun i e=>arg_ok h2 fun D w vs h=>by
  match vs,h with
  | [v1],⟨h1,_⟩=>exact⟨subRowG rfl (fun k j hk hj=>by rw[e];exact qp_all hk j) D w v1 h1,trivial⟩
 refine fn_ok (E:=E1) E1_ok Tryz.func94 rfl mixed (by kernel_rfl) (by kernel_rfl) ?_
 conv=>whnf
 refine⟨by rw[eM];omega,Int.le_refl _,by rw[eM];omega,by show(64:Int)*(if((0:Nat):Int) > ((n:Nat):Int)then((0:Nat):Int)else((n:Nat):Int))≤281474976710656;rw[eM];omega,?_⟩
 conv=>whnf
 refine loop_ints (fun i:Nat=>gst [(0,.c (ql n q)),(1,.c .nil),(2,.c (.cl 95 1 fun _ => .xp 4 u)),(7,.c (.gs 0 0)),(18,.c (.int .i64 n)),(19,.c (.int .i64 i))] [gqp n z i]) (fun i=>n-i) (fun i=>i≤n) 0 rfl (Weak.gen [some 0] rfl ⟨⟨_,rfl,rfl,rfl,eM2,rfl,fun k j hk hj=>?_⟩,trivial⟩ ⟨.inl ⟨_,_,rfl,rfl,fun _ _ _ _=>rfl⟩,⟨rfl,rfl⟩,⟨_,rfl,fun _ _=>⟨rfl,rfl⟩⟩,⟨_,rfl,rfl,rfl⟩,⟨_,rfl,by show((if((0:Nat):Int) > ((n:Nat):Int)then((0:Nat):Int)else((n:Nat):Int)).toNat:Int)=_;omega⟩,⟨_,rfl,rfl⟩,trivial⟩) (Nat.zero_le _) fun i hi=>?_
 ·exact regE (congrArg (fun l=>l.getD j .any) (qp_zero z k).symm) (qp_clos k j)
 have call:=call i
 conv=>whnf
 refine bcase (fun(h:decide ((i:Int)<n)=true)=>?_) fun(h:decide ((i:Int)<n)=false)=>?_
 ·have h:=of_decide_eq_true h
  have call:=call (by omega)
  conv=>whnf
  refine bpos (show decide ((i:Int)<n)=true from decide_eq_true (by omega)) ?_
  conv=>whnf
  refine⟨by omega,by omega,?_⟩
  conv=>whnf
  refine⟨_,call,?_⟩
  conv=>whnf
  refine⟨by omega,by show(i:Int)<(n:Int);omega,?_⟩
  conv=>whnf
  refine⟨i64 (by omega) (by omega),?_⟩
  conv=>whnf
  refine⟨i+1,by omega,Weak.gen [some 0] rfl ⟨⟨_,rfl,rfl,rfl,rfl,rfl,fun j k hj hk=>regE ?_ (qp_clos j k)⟩,trivial⟩ ⟨.inl ⟨_,_,rfl,rfl,fun _ _ _ _=>rfl⟩,⟨rfl,rfl⟩,⟨_,rfl,fun _ _=>⟨rfl,rfl⟩⟩,⟨_,rfl,rfl,rfl⟩,⟨_,rfl,rfl⟩,⟨_,rfl,rfl⟩,trivial⟩,by omega⟩
  exact updG (sz:=4) (g:=qpF z i) (g':=qpF z (i+1)) (l:=nq (z i)) rfl hk (qp_next z i j)
 ·have h:=of_decide_eq_false h
  have g:=hT i (by omega)
  conv=>whnf
  refine .inr ⟨fun k j _ _=>qp_clos k j,?_⟩
  conv=>whnf
  refine⟨_,g,?_⟩
  conv=>whnf
  exact⟨rfl,Sub.refl _⟩
end Rf
end Go.Proofs.YtkmbnldginonbaaGreat
/- Commutative rings of one's own, identities in them by reflection, sums. Plain: no program. -/
namespace Go.Proofs.YtkmbnldginonbaaGreat
class Crg (α : Type) extends Add α, Mul α, Neg α, _root_.Sub α, Zero α, One α where
 add_assoc:∀ a b c:α,a+b+c=a+(b+c)
 add_comm:∀ a b:α,a+b=b+a
 add_zero:∀ a:α,a+0=a
 add_neg:∀ a:α,a + -a=0
 sub_def:∀ a b:α,a-b=a + -b
 mul_assoc:∀ a b c:α,a*b*c=a*(b*c)
 mul_comm:∀ a b:α,a*b=b*a
 mul_one:∀ a:α,a*1=a
 mul_add:∀ a b c:α,a*(b+c)=a*b+a*c
namespace Crg
section
variable {α:Type} [Crg α]
theorem zero_add (a:α):0+a=a:=by rw[add_comm,add_zero]
theorem one_mul (a:α):1*a=a:=by rw[mul_comm,mul_one]
theorem neg_add (a:α) : -a+a=0:=by rw[add_comm,add_neg]
theorem add_mul (a b c:α):(a+b)*c=a*c+b*c:=by rw[mul_comm,mul_add,mul_comm c,mul_comm c]
theorem add_left_cancel {a b c:α} (h:a+b=a+c):b=c:=by
 have h:=congrArg (-a+·) h
 simp only[← add_assoc,neg_add,zero_add]at h
 exact h
theorem add_right_cancel {a b c:α} (h:b+a=c+a):b=c:=by
 rw[add_comm b,add_comm c]at h
 exact add_left_cancel h
theorem mul_zero (a:α):a*0=0:=by
 have h:a*0+a*0=a*0+0:=by rw[← mul_add,add_zero,add_zero]
 exact add_left_cancel h
theorem zero_mul (a:α):0*a=0:=by rw[mul_comm,mul_zero]
theorem neg_eq {a b:α} (h:a+b=0):b = -a:=add_left_cancel (h.trans (add_neg a).symm)
theorem neg_zero : -(0:α)=0:=(neg_eq (add_zero 0)).symm
theorem neg_neg (a:α) : -(-a)=a:=(neg_eq (neg_add a)).symm
theorem mul_neg (a b:α):a * -b = -(a*b):=neg_eq (by rw[← mul_add,add_neg,mul_zero])
theorem neg_mul (a b:α) : -a*b = -(a*b):=by rw[mul_comm,mul_neg,mul_comm]
theorem sub_zero (a:α):a-0=a:=by rw[sub_def,neg_zero,add_zero]
theorem sub_self (a:α):a-a=0:=by rw[sub_def,add_neg]
theorem sub_eq_zero {a b:α}:a-b=0↔a=b:=by
 rw[sub_def]
 refine⟨fun h=>?_,fun h=>by rw[h,add_neg]⟩
 rw[add_comm]at h
 have:=neg_eq h
 rw[neg_neg]at this
 exact this
theorem add_left_comm (a b c:α):a+(b+c)=b+(a+c):=by rw[← add_assoc,add_comm a,add_assoc]
theorem mul_left_comm (a b c:α):a*(b*c)=b*(a*c):=by rw[← mul_assoc,mul_comm a,mul_assoc]
def pw (a : α) : Nat → α
 | 0=>1
 | n+1=>pw a n*a
theorem pw_add (a : α) (m : Nat) : ∀ n, pw a (m + n) = pw a m * pw a n
 | 0=>(mul_one _).symm
 | n+1=>by
  show pw a (m+n)*a=pw a m*(pw a n*a)
  rw[pw_add a m n,mul_assoc]
theorem pw_one (a:α):pw a 1=a:=one_mul a
def sm (f : Nat → α) : Nat → α
 | 0=>0
 | n+1=>sm f n+f n
theorem sm_congr {f g : Nat → α} : ∀ {n : Nat}, (∀ i, i < n → f i = g i) → sm f n = sm g n
 | 0,_=>rfl
 | n+1,h=>by
  show sm f n+f n=sm g n+g n
  rw[sm_congr fun i hi=>h i (by omega),h n (by omega)]
theorem sm_zero {f:Nat->α} {n:Nat} (h:∀ i,i<n->f i=0):sm f n=0:=by
 induction n with
 | zero=>rfl
 | succ n ih =>
  show sm f n+f n=0
  rw[ih fun i hi=>h i (by omega),h n (by omega),add_zero]
theorem sm_add (f g : Nat → α) : ∀ n, sm (fun i => f i + g i) n = sm f n + sm g n
 | 0=>(add_zero _).symm
 | n+1=>by
  show sm (fun i=>f i+g i) n+(f n+g n)=sm f n+f n+(sm g n+g n)
  rw[sm_add f g n,add_assoc,add_assoc,add_left_comm (sm g n)]
theorem mul_sm (c : α) (f : Nat → α) : ∀ n, c * sm f n = sm (fun i => c * f i) n
 | 0=>mul_zero c
 | n+1=>by
  show c*(sm f n+f n)=_+_
  rw[mul_add,mul_sm c f n]
theorem sm_mul (c:α) (f:Nat->α) (n:Nat):sm f n*c=sm (fun i=>f i*c) n:=by
 rw[mul_comm,mul_sm]
 exact sm_congr fun i _=>mul_comm _ _
theorem sm_neg (f : Nat → α) : ∀ n, sm (fun i => -f i) n = -sm f n
 | 0=>neg_zero.symm
 | n+1=>by
  show sm (fun i => -f i) n + -f n = -(sm f n+f n)
  rw[sm_neg f n]
  refine neg_eq ?_
  rw[add_assoc,add_left_comm (f n),add_neg,add_zero,add_neg]
theorem sm_head (f : Nat → α) : ∀ n, sm f (n + 1) = f 0 + sm (fun i => f (i + 1)) n
 | 0=>by show 0+f 0=f 0+0;rw[zero_add,add_zero]
 | n+1=>by
  show sm f (n+1)+f (n+1)=f 0+(sm (fun i=>f (i+1)) n+f (n+1))
  rw[sm_head f n,add_assoc]
theorem sm_rev : ∀ (n : Nat) (f : Nat → α), sm f n = sm (fun i => f (n - 1 - i)) n
 | 0,_=>rfl
 | n+1,f=>by
  rw[sm_head f n,sm_rev n fun i=>f (i+1)]
  show f 0+_=sm (fun i=>f (n+1-1-i)) n+f (n+1-1-n)
  rw[show n+1-1-n=0 by omega,add_comm]
  congr 1
  refine sm_congr fun i hi=>?_
  rw[show n-1-i+1=n+1-1-i by omega]
theorem sm_more {f : Nat → α} {n : Nat} (h : ∀ i, n ≤ i → f i = 0) : ∀ {m : Nat}, n ≤ m → sm f m = sm f n
 | 0,hm=>by rw[Nat.le_zero.1 hm]
 | m+1,hm=>by
  rcases Nat.lt_or_ge m n with h1 | h1
  ·rw[show n=m+1 by omega]
  ·show sm f m+f m=_
   rw[h m h1,add_zero,sm_more h h1]
theorem sm_one {f:Nat->α} {n k:Nat} (hk:k<n) (h:∀ i,i<n->i≠k->f i=0):sm f n=f k:=by
 induction n with
 | zero=>omega
 | succ n ih =>
  show sm f n+f n=f k
  by_cases e:k=n
  ·subst e
   rw[sm_zero fun i hi=>h i (by omega) (by omega),zero_add]
  ·rw[ih (by omega) fun i hi=>h i (by omega),h n (by omega) (fun h=>e h.symm),add_zero]
theorem sm_swap (f : Nat → Nat → α) (m : Nat) : ∀ n, sm (fun i => sm (f i) m) n = sm (fun j => sm (fun i => f i j) n) m
 | 0=>by
  rw[sm_zero (f:=fun j=>sm (fun i=>f i j) 0) fun _ _=>rfl]
  rfl
 | n+1=>by
  show sm (fun i=>sm (f i) m) n+sm (f n) m=sm (fun j=>sm (fun i=>f i j) n+f n j) m
  rw[sm_swap f m n,sm_add]
theorem sm_tri (f : Nat → Nat → α) : ∀ n, sm (fun i => sm (fun j => f j (i - j)) (i + 1)) n = sm (fun j => sm (fun l => f j l) (n - j)) n
 | 0=>rfl
 | n+1=>by
  show sm (fun i=>sm (fun j=>f j (i-j)) (i+1)) n+sm (fun j=>f j (n-j)) (n+1)=sm (fun j=>sm (fun l=>f j l) (n+1-j)) n+sm (fun l=>f n l) (n+1-n)
  rw[sm_tri f n]
  have e:sm (fun j=>sm (fun l=>f j l) (n+1-j)) n=sm (fun j=>sm (fun l=>f j l) (n-j)) n+sm (fun j=>f j (n-j)) n:=by
   rw[← sm_add]
   refine sm_congr fun j hj=>?_
   rw[show n+1-j=n-j+1 by omega]
   rfl
  have e2:sm (fun l=>f n l) (n+1-n)=f n (n-n):=by
   rw[show n+1-n=1 by omega,Nat.sub_self]
   exact zero_add _
  rw[e,e2,add_assoc]
  rfl
theorem sm_split (f : Nat → α) (n : Nat) : ∀ m, sm f (n + m) = sm f n + sm (fun i => f (n + i)) m
 | 0=>(add_zero _).symm
 | m+1=>by
  show sm f (n+m)+f (n+m)=sm f n+(sm (fun i=>f (n+i)) m+f (n+m))
  rw[sm_split f n m,add_assoc]
end
/-! ### Identities -/
inductive RE where
 | v (i:Nat)
 | z
 | o
 | add (a b:RE)
 | mul (a b:RE)
 | neg (a:RE)
 | sub (a b:RE)
instance:Add RE:=⟨.add⟩
instance:Mul RE:=⟨.mul⟩
instance:Neg RE:=⟨.neg⟩
instance:_root_.Sub RE:=⟨.sub⟩
instance:OfNat RE 0:=⟨.z⟩
instance:OfNat RE 1:=⟨.o⟩
abbrev t0:RE := .v 0
abbrev t1:RE := .v 1
abbrev t2:RE := .v 2
abbrev t3:RE := .v 3
abbrev t4:RE := .v 4
abbrev t5:RE := .v 5
abbrev t6:RE := .v 6
abbrev t7:RE := .v 7
def insN (a : Nat) : List Nat → List Nat
 | []=>[a]
 | b :: l=>if Nat.ble a b then a :: b :: l else b :: insN a l
def mergeN (l m:List Nat):List Nat:=l.foldr insN m
def leN : List Nat → List Nat → Bool
 | [],_=>true
 | _ :: _,[]=>false
 | a :: l,b :: m=>if Nat.blt a b then true else if Nat.blt b a then false else leN l m
def insL (a : List Nat) : List (List Nat) → List (List Nat)
 | []=>[a]
 | b :: l=>if leN a b then a :: b :: l else b :: insL a l
def sortL (l:List (List Nat)):List (List Nat):=l.foldr insL []
def prodL (l m:List (List Nat)):List (List Nat):=l.foldr (fun x r=>m.map (mergeN x)++r) []
def RE.nf : RE → List (List Nat) × List (List Nat)
 | .v i=>([[i]],[])
 | .z=>([],[])
 | .o=>([[]],[])
 | .add a b=>(a.nf.1++b.nf.1,a.nf.2++b.nf.2)
 | .neg a=>(a.nf.2,a.nf.1)
 | .sub a b=>(a.nf.1++b.nf.2,a.nf.2++b.nf.1)
 | .mul a b=>(prodL a.nf.1 b.nf.1++prodL a.nf.2 b.nf.2,prodL a.nf.1 b.nf.2++prodL a.nf.2 b.nf.1)
def eqL : List (List Nat) → List (List Nat) → Bool
 | [],[]=>true
 | a :: l,b :: m=>leN a b&&leN b a&&eqL l m
 | _,_=>false
def RE.chk (a b:RE):Bool:=eqL (sortL (a.nf.1++b.nf.2)) (sortL (b.nf.1++a.nf.2))
section
variable {α:Type} [Crg α]
def RE.ev (ρ : List α) : RE → α
 | .v i=>ρ.getD i 0
 | .z=>0
 | .o=>1
 | .add a b=>a.ev ρ+b.ev ρ
 | .mul a b=>a.ev ρ*b.ev ρ
 | .neg a => -a.ev ρ
 | .sub a b=>a.ev ρ-b.ev ρ
def mon (ρ : List α) : List Nat → α
 | []=>1
 | i :: l=>ρ.getD i 0*mon ρ l
def tot (ρ : List α) : List (List Nat) → α
 | []=>0
 | a :: l=>mon ρ a+tot ρ l
theorem mon_ins (ρ : List α) (a : Nat) : ∀ l, mon ρ (insN a l) = ρ.getD a 0 * mon ρ l
 | []=>rfl
 | b :: l=>by
  unfold insN
  split
  ·rfl
  ·show ρ.getD b 0*mon ρ (insN a l)=_
   rw[mon_ins ρ a l,mul_left_comm]
   rfl
theorem mon_merge (ρ : List α) (m : List Nat) : ∀ l, mon ρ (mergeN l m) = mon ρ l * mon ρ m
 | []=>(one_mul _).symm
 | a :: l=>by
  show mon ρ (insN a (mergeN l m))=ρ.getD a 0*mon ρ l*mon ρ m
  rw[mon_ins,mon_merge ρ m l,mul_assoc]
theorem tot_append (ρ : List α) (m : List (List Nat)) : ∀ l, tot ρ (l ++ m) = tot ρ l + tot ρ m
 | []=>(zero_add _).symm
 | a :: l=>by
  show mon ρ a+tot ρ (l++m)=mon ρ a+tot ρ l+tot ρ m
  rw[tot_append ρ m l,add_assoc]
theorem tot_map (ρ : List α) (x : List Nat) : ∀ m, tot ρ (m.map (mergeN x)) = mon ρ x * tot ρ m
 | []=>(mul_zero _).symm
 | a :: m=>by
  show mon ρ (mergeN x a)+tot ρ (m.map (mergeN x))=mon ρ x*(mon ρ a+tot ρ m)
  rw[mon_merge,tot_map ρ x m,mul_add]
theorem tot_prod (ρ : List α) (m : List (List Nat)) : ∀ l, tot ρ (prodL l m) = tot ρ l * tot ρ m
 | []=>(zero_mul _).symm
 | a :: l=>by
  show tot ρ (m.map (mergeN a)++prodL l m)=(mon ρ a+tot ρ l)*tot ρ m
  rw[tot_append,tot_map,tot_prod ρ m l,add_mul]
theorem tot_ins (ρ : List α) (a : List Nat) : ∀ l, tot ρ (insL a l) = mon ρ a + tot ρ l
 | []=>rfl
 | b :: l=>by
  unfold insL
  split
  ·rfl
  ·show mon ρ b+tot ρ (insL a l)=_
   rw[tot_ins ρ a l,add_left_comm]
   rfl
theorem tot_sort (ρ : List α) : ∀ l, tot ρ (sortL l) = tot ρ l
 | []=>rfl
 | a :: l=>by
  show tot ρ (insL a (sortL l))=_
  rw[tot_ins,tot_sort ρ l]
  rfl
theorem leN_eq : ∀ {l m : List Nat}, leN l m = true → leN m l = true → l = m
 | [],[],_,_=>rfl
 | [],_ :: _,_,h=>by cases h
 | _ :: _,[],h,_=>by cases h
 | a :: l,b :: m,h,k=>by
  unfold leN at h k
  by_cases e1:Nat.blt a b=true
  ·rw[if_pos e1]at k
   rw[Nat.blt_eq]at e1
   rw[if_neg (by rw[Nat.blt_eq];omega)]at k
   cases k
  ·by_cases e2:Nat.blt b a=true
   ·rw[if_neg e1,if_pos e2]at h
    cases h
   ·rw[if_neg e1,if_neg e2]at h
    rw[if_neg e2,if_neg e1]at k
    rw[Nat.blt_eq]at e1 e2
    rw[leN_eq h k,show a=b by omega]
theorem eqL_eq : ∀ {l m : List (List Nat)}, eqL l m = true → l = m
 | [],[],_=>rfl
 | [],_ :: _,h=>by cases h
 | _ :: _,[],h=>by cases h
 | a :: l,b :: m,h=>by
  unfold eqL at h
  simp only[Bool.and_eq_true]at h
  rw[leN_eq h.1.1 h.1.2,eqL_eq h.2]
theorem RE.ev_nf (ρ : List α) : ∀ e : RE, e.ev ρ + tot ρ e.nf.2 = tot ρ e.nf.1
 | .v i=>by show ρ.getD i 0+0=ρ.getD i 0*1+0;rw[mul_one]
 | .z=>rfl |> fun h=>(add_zero (0:α)).trans h
 | .o=>rfl
 | .add a b=>by
  show a.ev ρ+b.ev ρ+tot ρ (a.nf.2++b.nf.2)=tot ρ (a.nf.1++b.nf.1)
  rw[tot_append,tot_append,← ev_nf ρ a,← ev_nf ρ b,add_assoc,add_assoc,add_left_comm (b.ev ρ)]
 | .neg a=>by
  show -a.ev ρ+tot ρ a.nf.1=tot ρ a.nf.2
  rw[← ev_nf ρ a,← add_assoc,neg_add,zero_add]
 | .sub a b=>by
  show a.ev ρ-b.ev ρ+tot ρ (a.nf.2++b.nf.1)=tot ρ (a.nf.1++b.nf.2)
  rw[tot_append,tot_append,← ev_nf ρ a,← ev_nf ρ b,sub_def,add_assoc,add_assoc]
  congr 1
  rw[add_left_comm (tot ρ a.nf.2),← add_assoc (-b.ev ρ),neg_add,zero_add]
 | .mul a b=>by
  show a.ev ρ*b.ev ρ+tot ρ (prodL a.nf.1 b.nf.2++prodL a.nf.2 b.nf.1)=tot ρ (prodL a.nf.1 b.nf.1++prodL a.nf.2 b.nf.2)
  rw[tot_append,tot_append,tot_prod,tot_prod,tot_prod,tot_prod,← ev_nf ρ a,← ev_nf ρ b]
  simp only[mul_add,add_mul]
  generalize a.ev ρ=x
  generalize b.ev ρ=y
  generalize tot ρ a.nf.2=u
  generalize tot ρ b.nf.2=w
  simp only[add_assoc]
  congr 1
  rw[add_left_comm (u*w),add_comm (u*w),← add_assoc,add_comm (x*w),add_assoc]
theorem RE.eq (ρ:List α) (a b:RE) (h:RE.chk a b=true):a.ev ρ=b.ev ρ:=by
 have h:=congrArg (tot ρ) (eqL_eq h)
 rw[tot_sort,tot_sort,tot_append,tot_append,← ev_nf ρ a,← ev_nf ρ b]at h
 rw[add_assoc,add_assoc,add_comm (tot ρ b.nf.2)]at h
 exact add_right_cancel h
end
end Crg
end Go.Proofs.YtkmbnldginonbaaGreat
/- Polynomials over a field: the ring, degrees, division, common divisors, irreducible ones. Plain: no program. -/
namespace Go.Proofs.YtkmbnldginonbaaGreat
open Crg
class Fld (K : Type) extends Crg K where
 inv:K->K
 mul_inv:∀ a:K,a≠0->a*inv a=1
 one_ne:(1:K)≠0
theorem Fld.domain {K:Type} [Fld K] {a b:K} (h:a*b=0):a=0∨b=0:=by
 by_cases e:a=0
 ·exact .inl e
 ·refine .inr ?_
  have:=congrArg (Fld.inv a*·) h
  simp only[mul_zero,← Crg.mul_assoc]at this
  rw[Crg.mul_comm (Fld.inv a),Fld.mul_inv a e,one_mul]at this
  exact this
structure Pol (K : Type) [Crg K] where
 f:Nat->K
 fin:∃ n,∀ j,n≤j->f j=0
namespace Pol
section
variable {K:Type} [Crg K]
theorem ext {a b:Pol K} (h:∀ i,a.f i=b.f i):a=b:=by
 cases a;cases b
 congr
 exact funext h
def cv (f g:Nat->K) (k:Nat):K:=sm (fun i=>f i*g (k-i)) (k+1)
theorem cv_comm (f g:Nat->K) (k:Nat):cv f g k=cv g f k:=by
 unfold cv
 rw[sm_rev]
 refine sm_congr fun i hi=>?_
 show f (k-i)*g (k-(k-i))=g i*f (k-i)
 rw[show k-(k-i)=i by omega,Crg.mul_comm]
theorem cv_add (f g h:Nat->K) (k:Nat):cv f (fun i=>g i+h i) k=cv f g k+cv f h k:=by
 unfold cv
 rw[← sm_add]
 exact sm_congr fun i _=>mul_add _ _ _
theorem cv_assoc (f g h:Nat->K) (k:Nat):cv (cv f g) h k=cv f (cv g h) k:=by
 unfold cv
 have e1:sm (fun i=>sm (fun i_1=>f i_1*g (i-i_1)) (i+1)*h (k-i)) (k+1)=sm (fun i=>sm (fun j=>f j*g (i-j)*h (k-(j+(i-j)))) (i+1)) (k+1):=by
  refine sm_congr fun i _=>?_
  rw[sm_mul]
  refine sm_congr fun j hj=>?_
  rw[show j+(i-j)=i by omega]
 rw[e1,sm_tri (fun j l=>f j*g l*h (k-(j+l)))]
 refine sm_congr fun j hj=>?_
 rw[mul_sm,show k+1-j=k-j+1 by omega]
 refine sm_congr fun l hl=>?_
 rw[Crg.mul_assoc,show k-(j+l)=k-j-l by omega]
theorem cv_fin {f g:Nat->K} {n m:Nat} (hf:∀ j,n≤j->f j=0) (hg:∀ j,m≤j->g j=0) (k:Nat) (hk:n+m-1≤k):cv f g k=0:=by
 refine sm_zero fun i hi=>?_
 rcases Nat.lt_or_ge i n with h | h
 ·rw[hg (k-i) (by omega),mul_zero]
 ·rw[hf i h,zero_mul]
instance : Crg (Pol K) where
 zero:=⟨fun _=>0,0,fun _ _=>rfl⟩
 one:=⟨fun i=>if i=0 then 1 else 0,1,fun j hj=>if_neg (by omega)⟩
 add a b:=⟨fun i=>a.f i+b.f i,by
  obtain⟨n,hn⟩:=a.fin
  obtain⟨m,hm⟩:=b.fin
  exact⟨max n m,fun j hj=>by rw[hn j (by omega),hm j (by omega),Crg.add_zero]⟩⟩
 mul a b:=⟨cv a.f b.f,by
  obtain⟨n,hn⟩:=a.fin
  obtain⟨m,hm⟩:=b.fin
  exact⟨n+m,fun j hj=>cv_fin hn hm j (by omega)⟩⟩
 neg a:=⟨fun i => -a.f i,by
  obtain⟨n,hn⟩:=a.fin
  exact⟨n,fun j hj=>by rw[hn j hj,neg_zero]⟩⟩
 sub a b:=⟨fun i=>a.f i-b.f i,by
  obtain⟨n,hn⟩:=a.fin
  obtain⟨m,hm⟩:=b.fin
  exact⟨max n m,fun j hj=>by rw[hn j (by omega),hm j (by omega),sub_self]⟩⟩
 add_assoc a b c:=ext fun i=>Crg.add_assoc _ _ _
 add_comm a b:=ext fun i=>Crg.add_comm _ _
 add_zero a:=ext fun i=>Crg.add_zero _
 add_neg a:=ext fun i=>Crg.add_neg _
 sub_def a b:=ext fun i=>Crg.sub_def _ _
 mul_assoc a b c:=ext fun i=>cv_assoc _ _ _ _
 mul_comm a b:=ext fun i=>cv_comm _ _ _
 mul_one a:=ext fun i=>by
  show cv a.f (fun i=>if i=0 then 1 else 0) i=a.f i
  unfold cv
  rw[sm_one (k:=i) (by omega) fun j hj hne=>by dsimp only;rw[if_neg (by omega),mul_zero]]
  dsimp only
  rw[if_pos (Nat.sub_self i),Crg.mul_one]
 mul_add a b c:=ext fun i=>cv_add _ _ _ _
theorem f_add (a b:Pol K) (i:Nat):(a+b).f i=a.f i+b.f i:=rfl
theorem f_mul (a b:Pol K) (i:Nat):(a*b).f i=cv a.f b.f i:=rfl
theorem f_sub (a b:Pol K) (i:Nat):(a-b).f i=a.f i-b.f i:=rfl
theorem f_one (i:Nat):(1:Pol K).f i=if i=0 then 1 else 0:=rfl
def mn (c:K) (k:Nat):Pol K:=⟨fun i=>if i=k then c else 0,k+1,fun j hj=>if_neg (by omega)⟩
abbrev C (c:K):Pol K:=mn c 0
theorem mn_mul (c:K) (k:Nat) (a:Pol K) (i:Nat):(mn c k*a).f i=if k≤i then c*a.f (i-k)else 0:=by
 show cv (fun i=>if i=k then c else 0) a.f i=_
 unfold cv
 split
 ·rw[sm_one (k:=k) (by omega) fun j hj hne=>by dsimp only;rw[if_neg hne,zero_mul]]
  dsimp only
  rw[if_pos rfl]
 ·exact sm_zero fun j hj=>by dsimp only;rw[if_neg (by omega),zero_mul]
theorem C_mul (c:K) (a:Pol K) (i:Nat):(C c*a).f i=c*a.f i:=by rw[mn_mul,if_pos (Nat.zero_le _)];rfl
open Classical in
theorem ex_len (a:Pol K):∃ n,(∀ j,n≤j->a.f j=0)/\∀ k,n=k+1->a.f k≠0:=by
 obtain⟨n,hn⟩:=a.fin
 induction n with
 | zero=>exact⟨0,hn,fun k h=>by omega⟩
 | succ n ih =>
  by_cases h:a.f n=0
  ·exact ih fun j hj=>by
    by_cases e:j=n
    ·rw[e,h]
    ·exact hn j (by omega)
  ·exact⟨n+1,hn,fun k hk=>by rw[show k=n by omega];exact h⟩
noncomputable def len (a:Pol K):Nat:=(ex_len a).choose
theorem len_out (a:Pol K):∀ j,a.len≤j->a.f j=0:=(ex_len a).choose_spec.1
theorem len_top (a:Pol K) {k:Nat} (h:a.len=k+1):a.f k≠0:=(ex_len a).choose_spec.2 k h
theorem len_le {a:Pol K} {n:Nat} (h:∀ j,n≤j->a.f j=0):a.len≤n:=by
 rcases Nat.lt_or_ge n a.len with h1 | h1
 ·exact absurd (h (a.len-1) (by omega)) (len_top a (by omega))
 ·exact h1
theorem len_eq {a:Pol K} {k:Nat} (h:∀ j,k+1≤j->a.f j=0) (ht:a.f k≠0):a.len=k+1:=by
 have h1:=len_le h
 rcases Nat.lt_or_ge k a.len with h2 | h2
 ·omega
 ·exact absurd (len_out a k h2) ht
theorem len_zero:(0:Pol K).len=0:=Nat.le_zero.1 (len_le fun _ _=>rfl)
theorem len_nil {a:Pol K} (h:a.len=0):a=0:=ext fun i=>len_out a i (by omega)
theorem len_pos {a:Pol K} (h:a≠0):0<a.len:=Nat.pos_of_ne_zero fun e=>h (len_nil e)
theorem ne_of_len {a:Pol K} (h:0<a.len):a≠0:=fun e=>by rw[e,len_zero]at h;omega
theorem len_add (a b:Pol K):(a+b).len≤max a.len b.len:=len_le fun j hj=>by
 rw[f_add,len_out a j (by omega),len_out b j (by omega),Crg.add_zero]
theorem len_sub (a b:Pol K):(a-b).len≤max a.len b.len:=len_le fun j hj=>by
 rw[f_sub,len_out a j (by omega),len_out b j (by omega),sub_self]
theorem len_mn (c:K) (k:Nat):(mn c k:Pol K).len≤k+1:=len_le fun j hj=>if_neg (by omega)
theorem top_mul {a b:Pol K} {k l:Nat} (ha:a.len≤k+1) (hb:b.len≤l+1):(a*b).f (k+l)=a.f k*b.f l:=by
 show cv a.f b.f (k+l)=_
 unfold cv
 rw[sm_one (k:=k) (by omega) fun j hj hne=>?_]
 ·rw[show k+l-k=l by omega]
 ·rcases Nat.lt_or_ge j k with h | h
  ·rw[len_out b (k+l-j) (by omega),mul_zero]
  ·rw[len_out a j (by omega),zero_mul]
noncomputable def lead (a:Pol K):K:=a.f (a.len-1)
theorem lead_ne {a:Pol K} (h:a≠0):a.lead≠0:=len_top a (by have:=len_pos h;omega)
def Monic (a:Pol K):Prop:=0<a.len/\a.lead=1
def Dvs (a b:Pol K):Prop:=∃ c,b=a*c
theorem Dvs.trans {a b c:Pol K} (h:Dvs a b) (k:Dvs b c):Dvs a c:=by
 obtain⟨x,rfl⟩:=h
 obtain⟨y,rfl⟩:=k
 exact⟨x*y,Crg.mul_assoc _ _ _⟩
theorem Dvs.mul {a b:Pol K} (h:Dvs a b) (c:Pol K):Dvs a (b*c):=h.trans ⟨c,rfl⟩
theorem Dvs.mul' {a b:Pol K} (h:Dvs a b) (c:Pol K):Dvs a (c*b):=by rw[Crg.mul_comm];exact h.mul c
theorem Dvs.one (a:Pol K):Dvs 1 a:=⟨a,(one_mul a).symm⟩
end
section
variable {K:Type} [Fld K]
theorem len_mul {a b:Pol K} (ha:a≠0) (hb:b≠0):(a*b).len+1=a.len+b.len:=by
 have h1:=len_pos ha
 have h2:=len_pos hb
 have e:=len_eq (a:=a*b) (k:=a.len-1+(b.len-1)) (fun j hj=>cv_fin (len_out a) (len_out b) j (by omega)) (by
  rw[top_mul (by omega) (by omega)]
  intro h
  rcases Fld.domain h with h | h
  ·exact lead_ne ha h
  ·exact lead_ne hb h)
 omega
theorem domain {a b:Pol K} (h:a*b=0):a=0∨b=0:=by
 by_cases ha:a=0
 ·exact .inl ha
 by_cases hb:b=0
 ·exact .inr hb
 have:=len_mul ha hb
 have:=len_pos ha
 have:=len_pos hb
 rw[h,len_zero]at *
 omega
theorem cancel {a b c:Pol K} (ha:a≠0) (h:a*b=a*c):b=c:=by
 have:a*(b-c)=0:=by
  rw[show a*(b-c)=a*b-a*c from RE.eq [a,b,c] (t0*(t1-t2)) (t0*t1-t0*t2) rfl,h,sub_self]
 exact sub_eq_zero.1 ((domain this).resolve_left ha)
theorem lead_mul {a b:Pol K} (ha:a≠0) (hb:b≠0):(a*b).lead=a.lead*b.lead:=by
 have h:=len_mul ha hb
 have h1:=len_pos ha
 have h2:=len_pos hb
 unfold lead
 rw[show(a*b).len-1=a.len-1+(b.len-1)by omega,top_mul (by omega) (by omega)]
theorem Dvs.len {a b:Pol K} (h:Dvs a b) (hb:b≠0):a.len≤b.len:=by
 obtain⟨c,rfl⟩:=h
 have ha:a≠0:=fun e=>hb (by rw[e,zero_mul])
 have hc:c≠0:=fun e=>hb (by rw[e,mul_zero])
 have:=len_mul ha hc
 have:=len_pos hc
 omega
theorem one_ne:(1:Pol K)≠0:=fun e=>Fld.one_ne (K:=K) (by
 have:=congrArg (fun a:Pol K=>a.f 0) e
 exact this)
theorem len_C {c:K} (h:c≠0):(C c:Pol K).len=1:=len_eq (fun j hj=>if_neg (by omega)) (by show(if 0=0 then c else 0)≠0;rw[if_pos rfl];exact h)
theorem len_one:(1:Pol K).len=1:=len_C Fld.one_ne
theorem divide (b : Pol K) (hb : b ≠ 0) : ∀ (n : Nat) (a : Pol K), a.len ≤ n → ∃ q r, a = q * b + r ∧ r.len < b.len
 | 0,a,h=>⟨0,a,by rw[zero_mul,zero_add],by have:=len_pos hb;omega⟩
 | n+1,a,h=>by
  rcases Nat.lt_or_ge a.len b.len with h1 | h1
  ·exact⟨0,a,by rw[zero_mul,zero_add],h1⟩
  have h2:=len_pos hb
  have hl:=lead_ne hb
  let m:Pol K:=mn (a.lead*Fld.inv b.lead) (a.len-b.len)
  have hs:(a-m*b).len≤n:=len_le fun j hj=>by
   rw[f_sub,mn_mul]
   rcases Nat.lt_or_ge j a.len with h3 | h3
   ·have e:j=a.len-1:=by omega
    rw[if_pos (by omega),show j-(a.len-b.len)=b.len-1 by omega]
    show a.f j-a.lead*Fld.inv b.lead*b.lead=0
    rw[Crg.mul_assoc,Crg.mul_comm (Fld.inv b.lead),Fld.mul_inv _ hl,Crg.mul_one,e]
    exact sub_self _
   ·rw[len_out a j h3,if_pos (by omega),len_out b _ (by omega),mul_zero,sub_self]
  obtain⟨q,r,e,hr⟩:=divide b hb n (a-m*b) hs
  refine⟨m+q,r,?_,hr⟩
  have:a=m*b+(a-m*b):=RE.eq [a,m,b] t0 (t1*t2+(t0-t1*t2)) rfl
  rw[this,e]
  exact RE.eq [m,b,q,r] (t0*t1+(t2*t1+t3)) ((t0+t2)*t1+t3) rfl
theorem div_ex (a:Pol K) {b:Pol K} (hb:b≠0):∃ q r,a=q*b+r/\r.len<b.len:=divide b hb a.len a (Nat.le_refl _)
end
end Pol
end Go.Proofs.YtkmbnldginonbaaGreat
/- The field of p elements; polynomials over it modulo an irreducible one: Fermat, Frobenius, the number of roots. Plain: no program. -/
namespace Go.Proofs.YtkmbnldginonbaaGreat
open Crg
class Prm (p : Int) : Prop where
 two:2≤p
 inv:∀ a:Int,a%p≠0->∃ b:Int,(a*b)%p=1
namespace Zp
section
variable {p:Int} [hp:Prm p]
end
end Zp
namespace Crg
section
variable {α:Type} [Crg α]
def nc : Nat → α
 | 0=>0
 | n+1=>nc n+1
end
end Crg
end Go.Proofs.YtkmbnldginonbaaGreat
/- Polynomials over the field of p elements modulo an irreducible one. Plain: no program. -/
namespace Go.Proofs.YtkmbnldginonbaaGreat
open Crg
namespace Pol
section
variable {K:Type} [Crg K]
def X:Pol K:=mn 1 1
theorem C_zero:(C 0:Pol K)=0:=ext fun i=>by
 show(if i=0 then(0:K)else 0)=0
 split <;> rfl
end
end Pol
section
variable {p:Int} [hp:Prm p]
end
section
variable {p:Int} [hp:Prm p] {α:Type} [Crg α]
end
section
variable {p:Int} [hp:Prm p]
open Pol
end
/-! ### Roots modulo an irreducible polynomial -/
section
variable {R:Type} [Crg R]
def hv (y : R) : List R → R
 | []=>0
 | c :: l=>c+y*hv y l
end
end Go.Proofs.YtkmbnldginonbaaGreat
/- Polynomials over the field of p elements by their digits; Fermat modulo an irreducible polynomial; which irreducible polynomials divide x^(p^d) - x. Plain: no program. -/
namespace Go.Proofs.YtkmbnldginonbaaGreat
open Crg Pol
section
variable {p:Int} [hp:Prm p]
end
/-! ### Remainders -/
namespace Pol
section
variable {K:Type} [Fld K]
end
end Pol
section
variable {p:Int} [hp:Prm p]
end
end Go.Proofs.YtkmbnldginonbaaGreat
/- The derivative; polynomials without square divisors; irreducible polynomials of each degree. Plain: no program. -/
namespace Go.Proofs.YtkmbnldginonbaaGreat
open Crg
namespace Pol
section
variable {K:Type} [Crg K]
def dv (a:Pol K):Pol K:=⟨fun i=>nc (i+1)*a.f (i+1),a.len,fun j hj=>by rw[len_out a _ (by omega),mul_zero]⟩
end
section
variable {K:Type} [Fld K]
end
end Pol
open Pol
section
variable {p:Int} [hp:Prm p]
end
end Go.Proofs.YtkmbnldginonbaaGreat
/- Values of polynomials; reciprocity of irreducible polynomials over the field of p elements. Plain: no program. -/
namespace Go.Proofs.YtkmbnldginonbaaGreat
open Crg
structure Hm {A B : Type} [Crg A] [Crg B] (φ : A → B) : Prop where
 add:∀ a b,φ (a+b)=φ a+φ b
 mul:∀ a b,φ (a*b)=φ a*φ b
 one:φ 1=1
namespace Hm
variable {A B:Type} [Crg A] [Crg B] {φ:A->B}
theorem zero (h:Hm φ):φ 0=0:=by
 have:=h.add 0 0
 rw[add_zero]at this
 exact add_left_cancel (a:=φ 0) (by rw[add_zero];exact this.symm)
theorem neg (h:Hm φ) (a:A):φ (-a) = -φ a:=neg_eq (by rw[← h.add,add_neg,h.zero])
theorem sub (h:Hm φ) (a b:A):φ (a-b)=φ a-φ b:=by rw[sub_def,h.add,h.neg,← sub_def]
end Hm
namespace Pol
section
variable {A B:Type} [Crg A] [Crg B]
noncomputable def ev (φ:A->B) (y:B) (a:Pol A):B:=sm (fun i=>φ (a.f i)*pw y i) a.len
noncomputable def up (a:Pol A):Pol (Pol A):=ev (fun c=>C (C c)) X a
end
section
variable {R:Type} [Crg R]
end
end Pol
end Go.Proofs.YtkmbnldginonbaaGreat
/- Matrices over a commutative ring: products, powers, traces; companion matrices and Newton's identities. Plain: no program. -/
namespace Go.Proofs.YtkmbnldginonbaaGreat
open Crg Pol
namespace Mx
section
variable {R:Type} {n:Nat} {A B C:Nat->Nat->R}
def Eqn (n:Nat) (A B:Nat->Nat->R):Prop:=∀ i j,i<n->j<n->A i j=B i j
theorem Eqn.refl (A:Nat->Nat->R):Eqn n A A:=fun _ _ _ _=>rfl
theorem Eqn.symm (h:Eqn n A B):Eqn n B A:=fun i j hi hj=>(h i j hi hj).symm
theorem Eqn.trans (h:Eqn n A B) (k:Eqn n B C):Eqn n A C:=fun i j hi hj=>(h i j hi hj).trans (k i j hi hj)
end
section
variable {R:Type} [Crg R]
def mm (n:Nat) (A B:Nat->Nat->R) (i j:Nat):R:=sm (fun a=>A i a*B a j) n
def mI (i j:Nat):R:=if i=j then 1 else 0
def mpw (n : Nat) (A : Nat → Nat → R) : Nat → Nat → Nat → R
 | 0=>mI
 | k+1=>mm n A (mpw n A k)
def tr (n:Nat) (A:Nat->Nat->R):R:=sm (fun i=>A i i) n
variable {n:Nat} {A B C D:Nat->Nat->R}
theorem mm_assoc (n:Nat) (A B C:Nat->Nat->R) (i j:Nat):mm n (mm n A B) C i j=mm n A (mm n B C) i j:=by
 show sm (fun b=>sm (fun a=>A i a*B a b) n*C b j) n=sm (fun a=>A i a*sm (fun b=>B a b*C b j) n) n
 rw[sm_congr fun b _=>sm_mul (C b j) (fun a=>A i a*B a b) n,sm_congr fun a _=>mul_sm (A i a) (fun b=>B a b*C b j) n,sm_swap (fun b a=>A i a*B a b*C b j) n n]
 exact sm_congr fun a _=>sm_congr fun b _=>mul_assoc _ _ _
theorem mm_congr (h:Eqn n A C) (k:Eqn n B D):Eqn n (mm n A B) (mm n C D):=fun i j hi hj=>sm_congr fun a ha=>by rw[h i a hi ha,k a j ha hj]
theorem I_mm {i:Nat} (hi:i<n) (j:Nat):mm n mI A i j=A i j:=by
 show sm (fun a=>(if i=a then 1 else 0)*A a j) n=_
 rw[sm_one hi fun a _ ha=>by rw[if_neg fun e=>ha e.symm,zero_mul],if_pos rfl,one_mul]
theorem mm_I {j:Nat} (hj:j<n) (i:Nat):mm n A mI i j=A i j:=by
 show sm (fun a=>A i a*(if a=j then 1 else 0)) n=_
 rw[sm_one hj fun a _ ha=>by rw[if_neg ha,mul_zero],if_pos rfl,mul_one]
theorem tr_congr (h:Eqn n A B):tr n A=tr n B:=sm_congr fun i hi=>h i i hi hi
theorem tr_mm (n:Nat) (A B:Nat->Nat->R):tr n (mm n A B)=tr n (mm n B A):=by
 show sm (fun i=>sm (fun a=>A i a*B a i) n) n=sm (fun i=>sm (fun a=>B i a*A a i) n) n
 rw[sm_swap (fun i a=>A i a*B a i) n n]
 exact sm_congr fun a _=>sm_congr fun b _=>mul_comm _ _
theorem mm_sm (f:Nat->Nat->Nat->R) (m i j:Nat):mm n A (fun a b=>sm (fun t=>f t a b) m) i j=sm (fun t=>mm n A (f t) i j) m:=by
 show sm (fun a=>A i a*sm (fun t=>f t a j) m) n=_
 rw[sm_congr fun a _=>mul_sm (A i a) (fun t=>f t a j) m]
 exact sm_swap (fun a t=>A i a*f t a j) m n
theorem mm_sc (c:R) (i j:Nat):mm n A (fun a b=>c*B a b) i j=c*mm n A B i j:=by
 show sm (fun a=>A i a*(c*B a j)) n=c*sm (fun a=>A i a*B a j) n
 rw[mul_sm]
 exact sm_congr fun a _=>mul_left_comm _ _ _
theorem tr_sm (f:Nat->Nat->Nat->R) (m:Nat):tr n (fun a b=>sm (fun t=>f t a b) m)=sm (fun t=>tr n (f t)) m:=sm_swap (fun i t=>f t i i) m n
theorem tr_sc (c:R):tr n (fun a b=>c*A a b)=c*tr n A:=(mul_sm c (fun i=>A i i) n).symm
theorem nc_sm : ∀ n : Nat, sm (fun _ => (1 : R)) n = nc n
 | 0=>rfl
 | n+1=>by
  show sm (fun _=>(1:R)) n+1=nc n+1
  rw[nc_sm n]
theorem tr_I (n:Nat):tr n (mI:Nat->Nat->R)=nc n:=by
 rw[← nc_sm]
 exact sm_congr fun i _=>if_pos rfl
theorem mpw_link {T : Nat → Nat → R} (h : Eqn n (mm n A T) (mm n T B)) : ∀ k, Eqn n (mm n (mpw n A k) T) (mm n T (mpw n B k))
 | 0=>fun i j hi hj=>by rw[show mpw n A 0=mI from rfl,show mpw n B 0=mI from rfl,I_mm hi,mm_I hj]
 | k+1=>by
  have e1:Eqn n (mm n (mpw n A (k+1)) T) (mm n A (mm n T (mpw n B k))):=fun i j hi hj=>by
   show mm n (mm n A (mpw n A k)) T i j=_
   rw[mm_assoc]
   exact mm_congr (Eqn.refl A) (mpw_link h k) i j hi hj
  have e2:Eqn n (mm n A (mm n T (mpw n B k))) (mm n (mm n T B) (mpw n B k)):=fun i j hi hj=>by
   rw[← mm_assoc]
   exact mm_congr h (Eqn.refl _) i j hi hj
  exact(e1.trans e2).trans fun i j _ _=>mm_assoc n T B _ i j
theorem tr_link {T S:Nat->Nat->R} (h:Eqn n (mm n A T) (mm n T B)) (h1:Eqn n (mm n T S) mI) (h2:Eqn n (mm n S T) mI) (k:Nat):tr n (mpw n B k)=tr n (mpw n A k):=by
 have e1:Eqn n (mpw n B k) (mm n S (mm n T (mpw n B k))):=fun i j hi hj=>by
  rw[← mm_assoc,mm_congr h2 (Eqn.refl _) i j hi hj,I_mm hi]
 have e2:Eqn n (mm n S (mm n T (mpw n B k))) (mm n S (mm n (mpw n A k) T)):=mm_congr (Eqn.refl _) (mpw_link h k).symm
 rw[tr_congr (e1.trans e2),tr_mm]
 refine tr_congr fun i j hi hj=>?_
 rw[mm_assoc,mm_congr (Eqn.refl _) h1 i j hi hj,mm_I hj]
def cm (n:Nat) (c:Nat->R) (j i:Nat):R:=(if j=i+1 then 1 else 0)-(if i+1=n then c j else 0)
theorem cm_mm {c:Nat->R} {T:Nat->Nat->R} {j k:Nat} (hj:j<n):mm n (cm n c) T j k=(if 1≤j then T (j-1) k else 0)-c j*T (n-1) k:=by
 have e:∀ a,cm n c j a*T a k=(if j=a+1 then 1 else 0)*T a k + -((if a+1=n then c j else 0)*T a k):=fun a=>by
  show((if j=a+1 then 1 else 0)-(if a+1=n then c j else 0))*T a k=_
  rw[sub_def,add_mul,neg_mul]
 show sm (fun a=>cm n c j a*T a k) n=_
 rw[sm_congr fun a _=>e a,sm_add,sm_neg]
 have e2:sm (fun a=>(if a+1=n then c j else 0)*T a k) n=c j*T (n-1) k:=by
  rw[sm_one (k:=n-1) (by omega) fun a _ ha=>by rw[if_neg (by omega),zero_mul],if_pos (by omega)]
 have e1:sm (fun a=>(if j=a+1 then 1 else 0)*T a k) n=if 1≤j then T (j-1) k else 0:=by
  split
  ·rw[sm_one (k:=j-1) (by omega) fun a _ ha=>by rw[if_neg (by omega),zero_mul],if_pos (by omega),one_mul]
  ·exact sm_zero fun a _=>by rw[if_neg (by omega),zero_mul]
 rw[e1,e2,← sub_def]
def gr (n : Nat) (c : Nat → R) : Nat → Nat → Nat → R
 | 0=>mI
 | r+1=>fun j i=>mm n (cm n c) (gr n c r) j i+c (n-1-r)*mI j i
def uu (n:Nat) (c:Nat->R) (r j i:Nat):R:=if i+r<n then(if i≤j then c (n-r+(j-i))else 0)else(if i+r-n≤j/\j<i then -c (j-(i+r-n))else 0)
theorem gr_eq {c : Nat → R} (h1 : c n = 1) (h0 : ∀ m, n < m → c m = 0) : ∀ r, r ≤ n → Eqn n (gr n c r) (uu n c r)
 | 0,_=>fun j i hj hi=>by
  show(if j=i then 1 else 0)=uu n c 0 j i
  unfold uu
  rw[if_pos (show i+0<n by omega)]
  by_cases e:j=i
  ·rw[if_pos e,if_pos (show i≤j by omega),show n-0+(j-i)=n by omega,h1]
  ·rw[if_neg e]
   split
   ·rw[h0 _ (by omega)]
   ·rfl
 | r+1,hr=>fun j i hj hi=>by
  have ih:=gr_eq h1 h0 r (by omega)
  show mm n (cm n c) (gr n c r) j i+c (n-1-r)*mI j i=_
  rw[mm_congr (Eqn.refl (cm n c)) ih j i hj hi,cm_mm hj]
  have eI:c (n-1-r)*mI j i=if j=i then c (n-1-r)else 0:=by
   unfold mI
   split
   ·rw[mul_one]
   ·rw[mul_zero]
  rw[eI]
  unfold uu
  rcases Nat.lt_or_ge (i+(r+1)) n with h | h
  ·-- the column is not yet wrapped
   rw[if_pos (show i+r<n by omega),if_pos (show i+r<n by omega),if_pos (show i+(r+1)<n by omega),if_pos (show i≤n-1 by omega),h0 (n-r+(n-1-i)) (by omega),mul_zero,sub_zero]
   rcases Nat.lt_trichotomy j i with h3 | h3 | h3
   ·rw[if_neg (show ¬ j=i by omega),add_zero,if_neg (show ¬ i≤j by omega)]
    split
    ·rw[if_neg (by omega)]
    ·rfl
   ·rw[if_pos h3,if_pos (show i≤j by omega),show n-(r+1)+(j-i)=n-1-r by omega]
    split
    ·rw[if_neg (by omega),zero_add]
    ·rw[zero_add]
   ·rw[if_neg (show ¬ j=i by omega),add_zero,if_pos (show 1≤j by omega),if_pos (show i≤j-1 by omega),if_pos (show i≤j by omega),show n-r+(j-1-i)=n-(r+1)+(j-i)by omega]
  ·rw[if_neg (show ¬ i+(r+1)<n by omega)]
   by_cases hk:i+r<n
   ·-- the column that wraps now
    rw[if_pos hk,if_pos hk,if_pos (show i≤n-1 by omega),show n-r+(n-1-i)=n by omega,h1,mul_one,show i+(r+1)-n=0 by omega,Nat.sub_zero]
    rcases Nat.lt_trichotomy j i with h3 | h3 | h3
    ·rw[if_neg (show ¬ j=i by omega),add_zero,if_pos (show 0≤j/\j<i by omega)]
     split
     ·rw[if_neg (by omega),sub_def,zero_add]
     ·rw[sub_def,zero_add]
    ·rw[if_pos h3,if_neg (show ¬(0≤j/\j<i)by omega),show n-1-r=j by omega]
     split
     ·rw[if_neg (by omega),sub_def,zero_add,neg_add]
     ·rw[sub_def,zero_add,neg_add]
    ·rw[if_neg (show ¬ j=i by omega),add_zero,if_neg (show ¬(0≤j/\j<i)by omega),if_pos (show 1≤j by omega),if_pos (show i≤j-1 by omega),show n-r+(j-1-i)=j by omega,sub_self]
   ·rw[if_neg hk,if_neg hk,if_neg (show ¬(i+r-n≤n-1/\n-1<i)by omega),mul_zero,sub_zero]
    rcases Nat.lt_trichotomy j i with h3 | h3 | h3
    ·rw[if_neg (show ¬ j=i by omega),add_zero]
     by_cases h4:i+(r+1)-n≤j/\j<i
     ·rw[if_pos h4,if_pos (show 1≤j by omega),if_pos (show i+r-n≤j-1/\j-1<i by omega),show j-1-(i+r-n)=j-(i+(r+1)-n)by omega]
     ·rw[if_neg h4]
      split
      ·rw[if_neg (by omega)]
      ·rfl
    ·rw[if_pos h3,if_neg (show ¬(i+(r+1)-n≤j/\j<i)by omega),if_pos (show 1≤j by omega),if_pos (show i+r-n≤j-1/\j-1<i by omega),show j-1-(i+r-n)=n-1-r by omega,neg_add]
    ·rw[if_neg (show ¬ j=i by omega),add_zero,if_neg (show ¬(i+(r+1)-n≤j/\j<i)by omega),if_pos (show 1≤j by omega),if_neg (by omega)]
theorem gr_sum {c : Nat → R} (h1 : c n = 1) : ∀ r, r ≤ n → Eqn n (gr n c r) fun a b => sm (fun t => c (n - r + t) * mpw n (cm n c) t a b) (r + 1)
 | 0,_=>fun i j hi hj=>by
  show mI i j=0+c (n-0+0)*mI i j
  rw[Nat.sub_zero,Nat.add_zero,h1,zero_add,one_mul]
 | r+1,hr=>fun i j hi hj=>by
  show mm n (cm n c) (gr n c r) i j+c (n-1-r)*mI i j=sm (fun t=>c (n-(r+1)+t)*mpw n (cm n c) t i j) (r+1+1)
  rw[mm_congr (Eqn.refl (cm n c)) (gr_sum h1 r (by omega)) i j hi hj,mm_sm,sm_head (fun t=>c (n-(r+1)+t)*mpw n (cm n c) t i j),show n-(r+1)+0=n-1-r by omega,add_comm]
  refine congrArg (c (n-1-r)*mI i j+·) ?_
  refine sm_congr fun t ht=>?_
  rw[mm_sc,show n-(r+1)+(t+1)=n-r+t by omega]
  rfl
theorem newton_cm {c:Nat->R} (h1:c n=1) (h0:∀ m,n<m->c m=0) {r:Nat} (hr:r≤n):sm (fun t=>c (n-r+t)*tr n (mpw n (cm n c) t)) (r+1)=nc (n-r)*c (n-r):=by
 have e1:sm (fun t=>c (n-r+t)*tr n (mpw n (cm n c) t)) (r+1)=tr n (gr n c r):=by
  rw[tr_congr (gr_sum h1 r hr),tr_sm]
  exact sm_congr fun t _=>(tr_sc _).symm
 rw[e1,tr_congr (gr_eq h1 h0 r hr)]
 show sm (fun i=>uu n c r i i) n=_
 have e2:∀ i,i<n->uu n c r i i=if i<n-r then c (n-r)else 0:=fun i hi=>by
  unfold uu
  by_cases h:i+r<n
  ·rw[if_pos h,if_pos (Nat.le_refl i),if_pos (show i<n-r by omega),Nat.sub_self,Nat.add_zero]
  ·rw[if_neg h,if_neg (show ¬(i+r-n≤i/\i<i)by omega),if_neg (show ¬ i<n-r by omega)]
 rw[sm_congr e2]
 have e3:sm (fun i=>if i<n-r then c (n-r)else 0) n=sm (fun i=>if i<n-r then c (n-r)else 0) (n-r):=sm_more (fun i hi=>if_neg (by omega)) (by omega)
 rw[e3,sm_congr fun i hi=>if_pos hi,← nc_sm,sm_mul]
 exact sm_congr fun i _=>(one_mul _).symm
theorem root_cm {c:Nat->R} (h1:c n=1) (h0:∀ m,n<m->c m=0):Eqn n (fun a b=>sm (fun t=>c t*mpw n (cm n c) t a b) (n+1)) fun _ _=>0:=fun i j hi hj=>by
 have h:=gr_sum h1 n (Nat.le_refl n) i j hi hj
 rw[gr_eq h1 h0 n (Nat.le_refl n) i j hi hj]at h
 have e:uu n c n i j=0:=by
  unfold uu
  rw[if_neg (by omega),if_neg (by omega)]
 rw[e]at h
 show sm (fun t=>c t*mpw n (cm n c) t i j) (n+1)=0
 rw[h]
 exact sm_congr fun t _=>by rw[Nat.sub_self,Nat.zero_add]
end
end Mx
end Go.Proofs.YtkmbnldginonbaaGreat
