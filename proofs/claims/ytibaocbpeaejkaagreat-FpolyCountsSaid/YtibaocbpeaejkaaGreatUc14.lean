/- The program's fpoly.separate: the walk. -/
import Derived.Test.YtibaocbpeaejkaaGreatUc13
import Derived.Shelf.SlSortCmp.WholeK
import Derived.Test.YtibaocbpeaejkaaGreatUc4
import Derived.Deep.Draws
import Derived.Test.YtibaocbpeaejkaaGreatUc11
import Derived.Test.YtibaocbpeaejkaaGreatUc9
import Derived.Test.YtibaocbpeaejkaaGreatRows
import Derived.ProofKit
import Derived.OpenShut
import Derived.Carry
import Derived.ChangeSame
namespace Go.Proofs.YtibaocbpeaejkaaGreat
open Go.RowKit
section
variable {p:Int} [hp:Prm p]
theorem dgp_v (n i:Nat):((dgp p n).f i).v=((n / p.toNat^i%p.toNat:Nat):Int):=by
  show((n / p.toNat^i%p.toNat:Nat):Int)%p=_
  have h2:=hp.two
  have:n / p.toNat^i%p.toNat<p.toNat:=Nat.mod_lt _ (by omega)
  exact Int.emod_eq_of_lt (by omega) (by omega)
theorem dgp_len' {n k:Nat} (h0:n / p.toNat^k=0) (h1:∀ i,i<k->n / p.toNat^i≠0):(dgp p n).len=k:=by
  have h2:=two_le (p:=p)
  have hz:∀ j,k≤j->(dgp p n).f j=0:=fun j hj=>by
    refine Zp.v_zero.1 ?_
    rw[dgp_v]
    obtain⟨d,rfl⟩:=Nat.exists_eq_add_of_le hj
    rw[Nat.pow_add,← Nat.div_div_eq_div_mul,h0,Nat.zero_div,Nat.zero_mod]
    rfl
  rcases Nat.eq_zero_or_pos k with hk | hk
  · subst hk
    exact Nat.le_zero.1 (Pol.len_le hz)
  · obtain⟨j,rfl⟩:∃ j,k=j+1:=⟨k-1,by omega⟩
    refine Pol.len_eq hz fun e=>?_
    have e:=Zp.v_zero.2 e
    rw[dgp_v]at e
    have h3:=h1 j (Nat.lt_succ_self j)
    rw[Nat.pow_succ,← Nat.div_div_eq_div_mul]at h0
    generalize n / p.toNat^j=m at *
    have h4:m<p.toNat:=(Nat.div_eq_zero_iff_lt (by omega)).1 h0
    rw[Nat.mod_eq_of_lt h4]at e
    omega
theorem dig_pos {n k:Nat} (hn:n<2^50) (h:n / p.toNat^k≠0):k<50:=by
  have h2:=two_le (p:=p)
  have h3:p.toNat^k≤n:=Nat.le_of_not_lt fun h4=>h (Nat.div_eq_of_lt h4)
  have h4:2^k≤p.toNat^k:=Nat.pow_le_pow_left h2 k
  exact(Nat.pow_lt_pow_iff_right (a:=2) (by decide)).1 (by omega)
theorem app_list (l m:List (Pol (Zp p))) {i y:Nat} (hy:y<1):appF l.length (pcs fun i=>l.getD i 0) (pcs fun i=>m.getD i 0) i y=pcs (fun i=>(l++m).getD i 0) i y:=by
  obtain rfl:y=0:=by omega
  unfold appF
  split
  · rename_i h
    show pc (l.getD i 0)=pc ((l++m).getD i 0)
    simp only[List.getD_eq_getElem?_getD,List.getElem?_append_left h]
  · rename_i h
    show pc (m.getD (i-l.length) 0)=pc ((l++m).getD i 0)
    simp only[List.getD_eq_getElem?_getD,List.getElem?_append_right (Nat.le_of_not_lt h)]
theorem one_pcs {bl:List Blk} {r:Prop} {h:Nat->Pol (Zp p)} {i y:Nat} (hy:y<1):St.one bl (pcs h i y)=true/\(r->(pcs h i y).noU=true):=by
  obtain rfl:y=0:=by omega
  exact⟨rfl,fun _=>rfl⟩
structure SpW (d : Nat) (f : Pol (Zp p)) (N : Nat) (t h g1 g2 : Nat → Pol (Zp p)) : Prop where
  nlt:N<2^50
  le:p.toNat≤N
  k0:∀ n,n≤N->FnOK Tryz.prog true 104 [.c (.int .i64 p),pl (dgp p n),pl f] (.t2 (pl (Pol.qo (dgp p n) f)) (pl (t n)))
  k1:∀ n,FnOK Tryz.prog true 103 [.c (.int .i64 p),pl f,pl (t n)] (pl (g1 n))
  k2:∀ n,FnOK Tryz.prog true 133 [.c (.int .i64 p),.c (.int .i64 d),pl f,pl (t n)] (pl (h n))
  k3:∀ n,FnOK Tryz.prog true 103 [.c (.int .i64 p),pl f,pl (h n)] (pl (g2 n))
  no1:∀ n,p.toNat≤n->n<N->¬ Proper f (g1 n)
  no2:∀ n,p.toNat≤n->n<N->¬ Proper f (g2 n)
set_option maxHeartbeats 8000000 in
theorem sep_walk1 (hm : Fp.md p) {d N : Nat} {f : Pol (Zp p)} {t h g1 g2 : Nat → Pol (Zp p)} {l m : List (Pol (Zp p))} (hl : d + 1 < f.len) (hl2 : f.len ≤ 65) (W : SpW d f N t h g1 g2) (hN : Proper f (g1 N)) (hll : l.length ≤ 65) (hml : m.length ≤ 65)
    (kq:FnOK Tryz.prog true 104 [.c (.int .i64 p),pl f,pl (g1 N)] (.t2 (pl (Pol.qo f (g1 N))) (pl (0:Pol (Zp p)))))
    (ka:FnM Tryz.prog true 106 phB [.c (.int .i64 p),.c (.int .i64 d),pl (g1 N)] (.c (.gs 1 0)) phB [gb (lB l)])
    (kb:FnOK Tryz.prog true 106 [.c (.int .i64 p),.c (.int .i64 d),pl (Pol.qo f (g1 N))] (.c (.row 1 m.length (pcs fun i=>m.getD i 0)))) :
    FnM Tryz.prog true 106 phB [.c (.int .i64 p),.c (.int .i64 d),pl f] (.c (.gs 1 0)) phB [gb (lB (l++m))]:=by
  have hm1:=hm.1
  have hm2:=hm.2.1
  obtain⟨nlt,le,k0,k1,k2,k3,no1,no2⟩:=W
  have hL:(ofP f).1=f.len:=rfl
  refine fnm_ok (E:=E1m) E1m_ok Tryz.func106 rfl mixed (by kernel_rfl) (by kernel_rfl) rfl ?_
  conv=>whnf
  refine⟨Fp.i64 (by omega) (by omega),?_⟩
  conv=>whnf
  refine bneg (show decide ((f.len:Int)-1≤(d:Int))=false from decide_eq_false (by omega)) ?_
  conv=>whnf
  refine loop_ints1 (fun n:Nat=>gst1 [(0,.c (.int .i64 p)),(1,.c (.int .i64 d)),(2,pl f),(7,.c (.int .i64 n))] []) (fun n=>N-n) (fun n=>p.toNat≤n/\n≤N) p.toNat rfl ?_ ⟨Nat.le_refl _,le⟩ fun n hn=>?_
  · exact Weak.gen1 [] rfl rfl trivial ⟨⟨_,rfl,rfl⟩,⟨_,rfl,rfl⟩,.inl ⟨_,_,rfl,rfl,fun _ _ _ _=>rfl⟩,⟨_,rfl,by omega⟩,trivial⟩
  obtain⟨hn1,hn2⟩:=hn
  have hdv:=dgp_v (p:=p) n
  have hdl:=fun k=>dgp_len' (p:=p) (n:=n) (k:=k)
  have hdp:=fun k=>dig_pos (p:=p) (n:=n) (k:=k) (by omega)
  have k0:=k0 n hn2
  have k1:=k1 n
  have k2:=k2 n
  have k3:=k3 n
  have no1:=no1 n hn1
  have no2:=no2 n hn1
  have no1:n<N->¬(1<(g1 n).len/\(g1 n).len<f.len):=no1
  have no2:n<N->¬(1<(g2 n).len/\(g2 n).len<f.len):=no2
  have hN:n=N->1<(g1 n).len/\(g1 n).len<f.len:=fun e=>by rw[e];exact hN
  have kq:n=N->FnOK Tryz.prog true 104 [.c (.int .i64 p),pl f,pl (g1 n)] (.t2 (pl (Pol.qo f (g1 N))) (pl (0:Pol (Zp p)))):=fun e=>by rw[e];exact kq
  have ka:n=N->FnM Tryz.prog true 106 phB [.c (.int .i64 p),.c (.int .i64 d),pl (g1 n)] (.c (.gs 1 0)) phB [gb (lB l)]:=fun e=>by rw[e];exact ka
  conv=>whnf
  refine loop_ints1 (fun k:Nat=>gst1 [(0,.c (.int .i64 p)),(1,.c (.int .i64 d)),(2,pl f),(7,.c (.int .i64 n)),(8,.c (.gs 1 0)),(9,.c (.int .i64 ((n / p.toNat^k:Nat):Int)))] [⟨3,1,k,fun i _ => .int .i64 ((dgp p n).f i).v⟩]) (fun k=>n / p.toNat^k) (fun k=>∀ i,i<k->n / p.toNat^i≠0) 0 rfl ?_ (fun i hi=>absurd hi (Nat.not_lt_zero i)) fun k hk=>?_
  · exact Weak.gen1 [none] rfl rfl ⟨rfl,trivial⟩ ⟨⟨_,rfl,rfl⟩,⟨_,rfl,rfl⟩,.inl ⟨_,_,rfl,rfl,fun _ _ _ _=>rfl⟩,⟨_,rfl,rfl⟩,rfl,⟨_,rfl,by rw[Nat.pow_zero,Nat.div_one]⟩,trivial⟩
  have hk1:=hdp k
  have hk2:=hdv k
  have hk3:=hdl k
  have hpn:(p.toNat:Int)=p:=by omega
  have hdd:n / p.toNat^(k+1)=n / p.toNat^k / p.toNat:=by rw[Nat.pow_succ,Nat.div_div_eq_div_mul]
  have hlt:n / p.toNat^k≤n:=Nat.div_le_self _ _
  generalize hM:n / p.toNat^k=M at *
  have e1:Int.tmod (M:Int) p=((M%p.toNat:Nat):Int):=by
    rw[Int.tmod_eq_emod_of_nonneg (by omega)]
    exact(congrArg (fun x=>(M:Int)%x) hpn.symm).trans (Int.natCast_emod M p.toNat).symm
  have e2:Int.tdiv (M:Int) p=((M / p.toNat:Nat):Int):=by
    rw[Int.tdiv_eq_ediv_of_nonneg (by omega)]
    exact(congrArg (fun x=>(M:Int) / x) hpn.symm).trans (Int.natCast_ediv M p.toNat).symm
  have hml2:M / p.toNat≤M:=Nat.div_le_self _ _
  have hb1:0≤Int.tdiv (M:Int) p:=by rw[e2];exact Int.natCast_nonneg _
  have hb2:Int.tdiv (M:Int) p≤(M:Int):=by rw[e2];exact Int.ofNat_le.2 hml2
  conv=>whnf
  refine bcase (fun(h:decide ((0:Int)<(M:Int))=true)=>?_) fun(h:decide ((0:Int)<(M:Int))=false)=>?_
  · have h:=of_decide_eq_true h
    conv=>whnf
    refine⟨by omega,?_⟩
    conv=>whnf
    refine⟨by show k+1≤16777216;omega,fun x y hx hy=>?_,?_⟩
    · obtain rfl : x = 0 := by have h : x < 1 := hx
                               omega
      obtain rfl : y = 0 := by have h : y < 1 := hy
                               omega
      exact⟨rfl,fun h=>rfl⟩
    conv=>whnf
    refine⟨by omega,Fp.i64 (by omega) (by omega),?_⟩
    conv=>whnf
    refine⟨k+1,(by show n / p.toNat^(k+1)<M;rw[hdd];exact Nat.div_lt_self (by omega) (by omega)),Weak.gen1 [some 1] rfl rfl ⟨⟨_,rfl,rfl,rfl,rfl,rfl,fun i y hi hy=>?_⟩,trivial⟩ ⟨⟨_,rfl,rfl⟩,⟨_,rfl,rfl⟩,.inl ⟨_,_,rfl,rfl,fun _ _ _ _=>rfl⟩,⟨_,rfl,rfl⟩,⟨_,rfl,rfl,rfl⟩,⟨_,rfl,by rw[hdd];exact e2⟩,trivial⟩,fun i hi=>?_⟩
    · obtain rfl : y = 0 := by have h : y < 1 := hy
                               omega
      refine⟨_,appI (f:=fun i=>((dgp p n).f i).v) (g:=fun i=>((dgp p n).f i).v) (k:=k) (m:=k+1) ?_ (Nat.le_refl _) hi,rfl⟩
      by_cases e:i=k
      · rw[if_pos e,e,e1,hk2]
      · rw[if_neg e]
    · rcases Nat.lt_or_ge i k with h1 | h1
      · exact hk i h1
      · obtain rfl:i=k:=by omega
        omega
  · have h:=of_decide_eq_false h
    have hk4:=hk3 (by omega) hk
    subst hk4
    conv=>whnf
    refine⟨fun i j hi hj=>rfl,?_⟩
    conv=>whnf
    refine⟨_,k0,?_⟩
    conv=>whnf
    refine⟨_,k1,?_⟩
    conv=>whnf
    refine⟨_,k2,?_⟩
    conv=>whnf
    refine⟨_,k3,?_⟩
    conv=>whnf
    refine loop_unroll 3 ?_
    conv=>whnf
    --ROUNDS
    have hL1:(ofP (g1 n)).1=(g1 n).len:=rfl
    have hL2:(ofP (g2 n)).1=(g2 n).len:=rfl
    refine(Nat.lt_or_ge n N).elim (fun hnN=>?_) fun hnN=>?_
    · have no1:=no1 hnN
      have no2:=no2 hnN
      refine⟨by decide,(by show(0:Int)<2;decide),?_⟩
      conv=>whnf
      refine(Nat.lt_or_ge 1 (g1 n).len).elim (fun c0=>?_) fun c0=>?_
      · refine bpos (show gw true (decide ((1:Int)<((g1 n).len:Int)))=true by rw[decide_eq_true (by omega)];rfl) ?_
        conv=>whnf
        refine bneg (show decide (((g1 n).len:Int)<(f.len:Int))=false from decide_eq_false (by omega)) ?_
        conv=>whnf
        refine⟨Fp.i64 (by decide) (by decide),?_⟩
        conv=>whnf
        refine⟨by decide,(by show(0+1:Int)<2;decide),?_⟩
        conv=>whnf
        refine(Nat.lt_or_ge 1 (g2 n).len).elim (fun c1=>?_) fun c1=>?_
        · refine bpos (show gw true (decide ((1:Int)<((g2 n).len:Int)))=true by rw[decide_eq_true (by omega)];rfl) ?_
          conv=>whnf
          refine bneg (show decide (((g2 n).len:Int)<(f.len:Int))=false from decide_eq_false (by omega)) ?_
          conv=>whnf
          refine⟨Fp.i64 (by decide) (by decide),?_⟩
          conv=>whnf
          refine⟨Fp.i64 (by omega) (by omega),?_⟩
          conv=>whnf
          refine⟨n+1,by omega,Weak.gen1 [] rfl rfl trivial ⟨⟨_,rfl,rfl⟩,⟨_,rfl,rfl⟩,.inl ⟨_,_,rfl,rfl,fun _ _ _ _=>rfl⟩,⟨_,rfl,rfl⟩,trivial⟩,by omega⟩
        · refine bneg (show gw true (decide ((1:Int)<((g2 n).len:Int)))=false by rw[decide_eq_false (by omega)];rfl) ?_
          conv=>whnf
          refine⟨Fp.i64 (by decide) (by decide),?_⟩
          conv=>whnf
          refine⟨Fp.i64 (by omega) (by omega),?_⟩
          conv=>whnf
          refine⟨n+1,by omega,Weak.gen1 [] rfl rfl trivial ⟨⟨_,rfl,rfl⟩,⟨_,rfl,rfl⟩,.inl ⟨_,_,rfl,rfl,fun _ _ _ _=>rfl⟩,⟨_,rfl,rfl⟩,trivial⟩,by omega⟩
      · refine bneg (show gw true (decide ((1:Int)<((g1 n).len:Int)))=false by rw[decide_eq_false (by omega)];rfl) ?_
        conv=>whnf
        refine⟨Fp.i64 (by decide) (by decide),?_⟩
        conv=>whnf
        refine⟨by decide,(by show(0+1:Int)<2;decide),?_⟩
        conv=>whnf
        refine(Nat.lt_or_ge 1 (g2 n).len).elim (fun c1=>?_) fun c1=>?_
        · refine bpos (show gw true (decide ((1:Int)<((g2 n).len:Int)))=true by rw[decide_eq_true (by omega)];rfl) ?_
          conv=>whnf
          refine bneg (show decide (((g2 n).len:Int)<(f.len:Int))=false from decide_eq_false (by omega)) ?_
          conv=>whnf
          refine⟨Fp.i64 (by decide) (by decide),?_⟩
          conv=>whnf
          refine⟨Fp.i64 (by omega) (by omega),?_⟩
          conv=>whnf
          refine⟨n+1,by omega,Weak.gen1 [] rfl rfl trivial ⟨⟨_,rfl,rfl⟩,⟨_,rfl,rfl⟩,.inl ⟨_,_,rfl,rfl,fun _ _ _ _=>rfl⟩,⟨_,rfl,rfl⟩,trivial⟩,by omega⟩
        · refine bneg (show gw true (decide ((1:Int)<((g2 n).len:Int)))=false by rw[decide_eq_false (by omega)];rfl) ?_
          conv=>whnf
          refine⟨Fp.i64 (by decide) (by decide),?_⟩
          conv=>whnf
          refine⟨Fp.i64 (by omega) (by omega),?_⟩
          conv=>whnf
          refine⟨n+1,by omega,Weak.gen1 [] rfl rfl trivial ⟨⟨_,rfl,rfl⟩,⟨_,rfl,rfl⟩,.inl ⟨_,_,rfl,rfl,fun _ _ _ _=>rfl⟩,⟨_,rfl,rfl⟩,trivial⟩,by omega⟩
    · have hE:n=N:=by omega
      have kq:=kq hE
      have ka:=ka hE
      have hN1:=(hN hE).1
      have hN2:=(hN hE).2
      refine⟨by decide,(by show(0:Int)<2;decide),?_⟩
      conv=>whnf
      refine bpos (show gw true (decide ((1:Int)<((g1 n).len:Int)))=true by rw[decide_eq_true (by omega)];rfl) ?_
      conv=>whnf
      refine bpos (show decide (((g1 n).len:Int)<(f.len:Int))=true from decide_eq_true (by omega)) ?_
      conv=>whnf
      refine⟨_,kq,?_⟩
      conv=>whnf
      refine .inl ⟨[],false,?_⟩
      conv=>whnf
      refine⟨0,phB,[.c (.int .i64 p),.c (.int .i64 d),pl (g1 n)],_,_,_,ka,rfl,.inr (Nat.le_refl 2),fun h=>absurd h (by decide),fun h=>absurd h (by decide),fun F' hF'=>?_,rfl,rfl,?_⟩
      · simp at hF';subst hF';exact fun _ i j _ hj=>pcs_clos (fun i=>l.getD i 0) (i:=i) hj
      conv=>whnf
      refine .inr ?_
      conv=>whnf
      refine⟨_,kb,?_⟩
      conv=>whnf
      refine⟨by show l.length+m.length≤16777216;omega,fun x y hx hy=>one_pcs (h:=fun i=>m.getD i 0) (i:=x) hy,?_⟩
      conv=>whnf
      refine Weak.gen1 (tl:=[(0,.c (.gs 1 0))]) (xs:=[lB (l++m)]) [some 3] rfl rfl ?_ ?_
      · exact⟨⟨_,rfl,rfl,rfl,List.length_append.symm,rfl,fun i y hi hy=>regE (app_list l m hy) (pcs_clos (fun i=>(l++m).getD i 0) (i:=i) hy)⟩,trivial⟩
      · exact⟨⟨_,rfl,rfl,rfl⟩,trivial⟩
set_option maxHeartbeats 8000000 in
theorem sep_walk2 (hm : Fp.md p) {d N : Nat} {f : Pol (Zp p)} {t h g1 g2 : Nat → Pol (Zp p)} {l m : List (Pol (Zp p))} (hl : d + 1 < f.len) (hl2 : f.len ≤ 65) (W : SpW d f N t h g1 g2) (hN : Proper f (g2 N)) (hN0 : ¬ Proper f (g1 N)) (hll : l.length ≤ 65) (hml : m.length ≤ 65)
    (kq:FnOK Tryz.prog true 104 [.c (.int .i64 p),pl f,pl (g2 N)] (.t2 (pl (Pol.qo f (g2 N))) (pl (0:Pol (Zp p)))))
    (ka:FnM Tryz.prog true 106 phB [.c (.int .i64 p),.c (.int .i64 d),pl (g2 N)] (.c (.gs 1 0)) phB [gb (lB l)])
    (kb:FnOK Tryz.prog true 106 [.c (.int .i64 p),.c (.int .i64 d),pl (Pol.qo f (g2 N))] (.c (.row 1 m.length (pcs fun i=>m.getD i 0)))) :
    FnM Tryz.prog true 106 phB [.c (.int .i64 p),.c (.int .i64 d),pl f] (.c (.gs 1 0)) phB [gb (lB (l++m))]:=by
  have hm1:=hm.1
  have hm2:=hm.2.1
  obtain⟨nlt,le,k0,k1,k2,k3,no1,no2⟩:=W
  have hL:(ofP f).1=f.len:=rfl
  refine fnm_ok (E:=E1m) E1m_ok Tryz.func106 rfl mixed (by kernel_rfl) (by kernel_rfl) rfl ?_
  conv=>whnf
  refine⟨Fp.i64 (by omega) (by omega),?_⟩
  conv=>whnf
  refine bneg (show decide ((f.len:Int)-1≤(d:Int))=false from decide_eq_false (by omega)) ?_
  conv=>whnf
  refine loop_ints1 (fun n:Nat=>gst1 [(0,.c (.int .i64 p)),(1,.c (.int .i64 d)),(2,pl f),(7,.c (.int .i64 n))] []) (fun n=>N-n) (fun n=>p.toNat≤n/\n≤N) p.toNat rfl ?_ ⟨Nat.le_refl _,le⟩ fun n hn=>?_
  · exact Weak.gen1 [] rfl rfl trivial ⟨⟨_,rfl,rfl⟩,⟨_,rfl,rfl⟩,.inl ⟨_,_,rfl,rfl,fun _ _ _ _=>rfl⟩,⟨_,rfl,by omega⟩,trivial⟩
  obtain⟨hn1,hn2⟩:=hn
  have hdv:=dgp_v (p:=p) n
  have hdl:=fun k=>dgp_len' (p:=p) (n:=n) (k:=k)
  have hdp:=fun k=>dig_pos (p:=p) (n:=n) (k:=k) (by omega)
  have k0:=k0 n hn2
  have k1:=k1 n
  have k2:=k2 n
  have k3:=k3 n
  have no1:=no1 n hn1
  have no2:=no2 n hn1
  have no1:n<N->¬(1<(g1 n).len/\(g1 n).len<f.len):=no1
  have no2:n<N->¬(1<(g2 n).len/\(g2 n).len<f.len):=no2
  have hN:n=N->1<(g2 n).len/\(g2 n).len<f.len:=fun e=>by rw[e];exact hN
  have kq:n=N->FnOK Tryz.prog true 104 [.c (.int .i64 p),pl f,pl (g2 n)] (.t2 (pl (Pol.qo f (g2 N))) (pl (0:Pol (Zp p)))):=fun e=>by rw[e];exact kq
  have ka:n=N->FnM Tryz.prog true 106 phB [.c (.int .i64 p),.c (.int .i64 d),pl (g2 n)] (.c (.gs 1 0)) phB [gb (lB l)]:=fun e=>by rw[e];exact ka
  have hN0:n=N->¬(1<(g1 n).len/\(g1 n).len<f.len):=fun e=>by rw[e];exact hN0
  conv=>whnf
  refine loop_ints1 (fun k:Nat=>gst1 [(0,.c (.int .i64 p)),(1,.c (.int .i64 d)),(2,pl f),(7,.c (.int .i64 n)),(8,.c (.gs 1 0)),(9,.c (.int .i64 ((n / p.toNat^k:Nat):Int)))] [⟨3,1,k,fun i _ => .int .i64 ((dgp p n).f i).v⟩]) (fun k=>n / p.toNat^k) (fun k=>∀ i,i<k->n / p.toNat^i≠0) 0 rfl ?_ (fun i hi=>absurd hi (Nat.not_lt_zero i)) fun k hk=>?_
  · exact Weak.gen1 [none] rfl rfl ⟨rfl,trivial⟩ ⟨⟨_,rfl,rfl⟩,⟨_,rfl,rfl⟩,.inl ⟨_,_,rfl,rfl,fun _ _ _ _=>rfl⟩,⟨_,rfl,rfl⟩,rfl,⟨_,rfl,by rw[Nat.pow_zero,Nat.div_one]⟩,trivial⟩
  have hk1:=hdp k
  have hk2:=hdv k
  have hk3:=hdl k
  have hpn:(p.toNat:Int)=p:=by omega
  have hdd:n / p.toNat^(k+1)=n / p.toNat^k / p.toNat:=by rw[Nat.pow_succ,Nat.div_div_eq_div_mul]
  have hlt:n / p.toNat^k≤n:=Nat.div_le_self _ _
  generalize hM:n / p.toNat^k=M at *
  have e1:Int.tmod (M:Int) p=((M%p.toNat:Nat):Int):=by
    rw[Int.tmod_eq_emod_of_nonneg (by omega)]
    exact(congrArg (fun x=>(M:Int)%x) hpn.symm).trans (Int.natCast_emod M p.toNat).symm
  have e2:Int.tdiv (M:Int) p=((M / p.toNat:Nat):Int):=by
    rw[Int.tdiv_eq_ediv_of_nonneg (by omega)]
    exact(congrArg (fun x=>(M:Int) / x) hpn.symm).trans (Int.natCast_ediv M p.toNat).symm
  have hml2:M / p.toNat≤M:=Nat.div_le_self _ _
  have hb1:0≤Int.tdiv (M:Int) p:=by rw[e2];exact Int.natCast_nonneg _
  have hb2:Int.tdiv (M:Int) p≤(M:Int):=by rw[e2];exact Int.ofNat_le.2 hml2
  conv=>whnf
  refine bcase (fun(h:decide ((0:Int)<(M:Int))=true)=>?_) fun(h:decide ((0:Int)<(M:Int))=false)=>?_
  · have h:=of_decide_eq_true h
    conv=>whnf
    refine⟨by omega,?_⟩
    conv=>whnf
    refine⟨by show k+1≤16777216;omega,fun x y hx hy=>?_,?_⟩
    · obtain rfl : x = 0 := by have h : x < 1 := hx
                               omega
      obtain rfl : y = 0 := by have h : y < 1 := hy
                               omega
      exact⟨rfl,fun h=>rfl⟩
    conv=>whnf
    refine⟨by omega,Fp.i64 (by omega) (by omega),?_⟩
    conv=>whnf
    refine⟨k+1,(by show n / p.toNat^(k+1)<M;rw[hdd];exact Nat.div_lt_self (by omega) (by omega)),Weak.gen1 [some 1] rfl rfl ⟨⟨_,rfl,rfl,rfl,rfl,rfl,fun i y hi hy=>?_⟩,trivial⟩ ⟨⟨_,rfl,rfl⟩,⟨_,rfl,rfl⟩,.inl ⟨_,_,rfl,rfl,fun _ _ _ _=>rfl⟩,⟨_,rfl,rfl⟩,⟨_,rfl,rfl,rfl⟩,⟨_,rfl,by rw[hdd];exact e2⟩,trivial⟩,fun i hi=>?_⟩
    · obtain rfl : y = 0 := by have h : y < 1 := hy
                               omega
      refine⟨_,appI (f:=fun i=>((dgp p n).f i).v) (g:=fun i=>((dgp p n).f i).v) (k:=k) (m:=k+1) ?_ (Nat.le_refl _) hi,rfl⟩
      by_cases e:i=k
      · rw[if_pos e,e,e1,hk2]
      · rw[if_neg e]
    · rcases Nat.lt_or_ge i k with h1 | h1
      · exact hk i h1
      · obtain rfl:i=k:=by omega
        omega
  · have h:=of_decide_eq_false h
    have hk4:=hk3 (by omega) hk
    subst hk4
    conv=>whnf
    refine⟨fun i j hi hj=>rfl,?_⟩
    conv=>whnf
    refine⟨_,k0,?_⟩
    conv=>whnf
    refine⟨_,k1,?_⟩
    conv=>whnf
    refine⟨_,k2,?_⟩
    conv=>whnf
    refine⟨_,k3,?_⟩
    conv=>whnf
    refine loop_unroll 3 ?_
    conv=>whnf
    --ROUNDS
    have hL1:(ofP (g1 n)).1=(g1 n).len:=rfl
    have hL2:(ofP (g2 n)).1=(g2 n).len:=rfl
    refine(Nat.lt_or_ge n N).elim (fun hnN=>?_) fun hnN=>?_
    · have no1:=no1 hnN
      have no2:=no2 hnN
      refine⟨by decide,(by show(0:Int)<2;decide),?_⟩
      conv=>whnf
      refine(Nat.lt_or_ge 1 (g1 n).len).elim (fun c0=>?_) fun c0=>?_
      · refine bpos (show gw true (decide ((1:Int)<((g1 n).len:Int)))=true by rw[decide_eq_true (by omega)];rfl) ?_
        conv=>whnf
        refine bneg (show decide (((g1 n).len:Int)<(f.len:Int))=false from decide_eq_false (by omega)) ?_
        conv=>whnf
        refine⟨Fp.i64 (by decide) (by decide),?_⟩
        conv=>whnf
        refine⟨by decide,(by show(0+1:Int)<2;decide),?_⟩
        conv=>whnf
        refine(Nat.lt_or_ge 1 (g2 n).len).elim (fun c1=>?_) fun c1=>?_
        · refine bpos (show gw true (decide ((1:Int)<((g2 n).len:Int)))=true by rw[decide_eq_true (by omega)];rfl) ?_
          conv=>whnf
          refine bneg (show decide (((g2 n).len:Int)<(f.len:Int))=false from decide_eq_false (by omega)) ?_
          conv=>whnf
          refine⟨Fp.i64 (by decide) (by decide),?_⟩
          conv=>whnf
          refine⟨Fp.i64 (by omega) (by omega),?_⟩
          conv=>whnf
          refine⟨n+1,by omega,Weak.gen1 [] rfl rfl trivial ⟨⟨_,rfl,rfl⟩,⟨_,rfl,rfl⟩,.inl ⟨_,_,rfl,rfl,fun _ _ _ _=>rfl⟩,⟨_,rfl,rfl⟩,trivial⟩,by omega⟩
        · refine bneg (show gw true (decide ((1:Int)<((g2 n).len:Int)))=false by rw[decide_eq_false (by omega)];rfl) ?_
          conv=>whnf
          refine⟨Fp.i64 (by decide) (by decide),?_⟩
          conv=>whnf
          refine⟨Fp.i64 (by omega) (by omega),?_⟩
          conv=>whnf
          refine⟨n+1,by omega,Weak.gen1 [] rfl rfl trivial ⟨⟨_,rfl,rfl⟩,⟨_,rfl,rfl⟩,.inl ⟨_,_,rfl,rfl,fun _ _ _ _=>rfl⟩,⟨_,rfl,rfl⟩,trivial⟩,by omega⟩
      · refine bneg (show gw true (decide ((1:Int)<((g1 n).len:Int)))=false by rw[decide_eq_false (by omega)];rfl) ?_
        conv=>whnf
        refine⟨Fp.i64 (by decide) (by decide),?_⟩
        conv=>whnf
        refine⟨by decide,(by show(0+1:Int)<2;decide),?_⟩
        conv=>whnf
        refine(Nat.lt_or_ge 1 (g2 n).len).elim (fun c1=>?_) fun c1=>?_
        · refine bpos (show gw true (decide ((1:Int)<((g2 n).len:Int)))=true by rw[decide_eq_true (by omega)];rfl) ?_
          conv=>whnf
          refine bneg (show decide (((g2 n).len:Int)<(f.len:Int))=false from decide_eq_false (by omega)) ?_
          conv=>whnf
          refine⟨Fp.i64 (by decide) (by decide),?_⟩
          conv=>whnf
          refine⟨Fp.i64 (by omega) (by omega),?_⟩
          conv=>whnf
          refine⟨n+1,by omega,Weak.gen1 [] rfl rfl trivial ⟨⟨_,rfl,rfl⟩,⟨_,rfl,rfl⟩,.inl ⟨_,_,rfl,rfl,fun _ _ _ _=>rfl⟩,⟨_,rfl,rfl⟩,trivial⟩,by omega⟩
        · refine bneg (show gw true (decide ((1:Int)<((g2 n).len:Int)))=false by rw[decide_eq_false (by omega)];rfl) ?_
          conv=>whnf
          refine⟨Fp.i64 (by decide) (by decide),?_⟩
          conv=>whnf
          refine⟨Fp.i64 (by omega) (by omega),?_⟩
          conv=>whnf
          refine⟨n+1,by omega,Weak.gen1 [] rfl rfl trivial ⟨⟨_,rfl,rfl⟩,⟨_,rfl,rfl⟩,.inl ⟨_,_,rfl,rfl,fun _ _ _ _=>rfl⟩,⟨_,rfl,rfl⟩,trivial⟩,by omega⟩
    · have hE:n=N:=by omega
      have kq:=kq hE
      have ka:=ka hE
      have hN1:=(hN hE).1
      have hN2:=(hN hE).2
      have hN0:=hN0 hE
      refine⟨by decide,(by show(0:Int)<2;decide),?_⟩
      conv=>whnf
      refine(Nat.lt_or_ge 1 (g1 n).len).elim (fun c0=>?_) fun c0=>?_
      · refine bpos (show gw true (decide ((1:Int)<((g1 n).len:Int)))=true by rw[decide_eq_true (by omega)];rfl) ?_
        conv=>whnf
        refine bneg (show decide (((g1 n).len:Int)<(f.len:Int))=false from decide_eq_false (by omega)) ?_
        conv=>whnf
        refine⟨Fp.i64 (by decide) (by decide),?_⟩
        conv=>whnf
        refine⟨by decide,(by show(0+1:Int)<2;decide),?_⟩
        conv=>whnf
        refine bpos (show gw true (decide ((1:Int)<((g2 n).len:Int)))=true by rw[decide_eq_true (by omega)];rfl) ?_
        conv=>whnf
        refine bpos (show decide (((g2 n).len:Int)<(f.len:Int))=true from decide_eq_true (by omega)) ?_
        conv=>whnf
        refine⟨_,kq,?_⟩
        conv=>whnf
        refine .inl ⟨[],false,?_⟩
        conv=>whnf
        refine⟨0,phB,[.c (.int .i64 p),.c (.int .i64 d),pl (g2 n)],_,_,_,ka,rfl,.inr (Nat.le_refl 2),fun h=>absurd h (by decide),fun h=>absurd h (by decide),fun F' hF'=>?_,rfl,rfl,?_⟩
        · simp at hF';subst hF';exact fun _ i j _ hj=>pcs_clos (fun i=>l.getD i 0) (i:=i) hj
        conv=>whnf
        refine .inr ?_
        conv=>whnf
        refine⟨_,kb,?_⟩
        conv=>whnf
        refine⟨by show l.length+m.length≤16777216;omega,fun x y hx hy=>one_pcs (h:=fun i=>m.getD i 0) (i:=x) hy,?_⟩
        conv=>whnf
        refine Weak.gen1 (tl:=[(0,.c (.gs 1 0))]) (xs:=[lB (l++m)]) [some 3] rfl rfl ?_ ?_
        · exact⟨⟨_,rfl,rfl,rfl,List.length_append.symm,rfl,fun i y hi hy=>regE (app_list l m hy) (pcs_clos (fun i=>(l++m).getD i 0) (i:=i) hy)⟩,trivial⟩
        · exact⟨⟨_,rfl,rfl,rfl⟩,trivial⟩
      · refine bneg (show gw true (decide ((1:Int)<((g1 n).len:Int)))=false by rw[decide_eq_false (by omega)];rfl) ?_
        conv=>whnf
        refine⟨Fp.i64 (by decide) (by decide),?_⟩
        conv=>whnf
        refine⟨by decide,(by show(0+1:Int)<2;decide),?_⟩
        conv=>whnf
        refine bpos (show gw true (decide ((1:Int)<((g2 n).len:Int)))=true by rw[decide_eq_true (by omega)];rfl) ?_
        conv=>whnf
        refine bpos (show decide (((g2 n).len:Int)<(f.len:Int))=true from decide_eq_true (by omega)) ?_
        conv=>whnf
        refine⟨_,kq,?_⟩
        conv=>whnf
        refine .inl ⟨[],false,?_⟩
        conv=>whnf
        refine⟨0,phB,[.c (.int .i64 p),.c (.int .i64 d),pl (g2 n)],_,_,_,ka,rfl,.inr (Nat.le_refl 2),fun h=>absurd h (by decide),fun h=>absurd h (by decide),fun F' hF'=>?_,rfl,rfl,?_⟩
        · simp at hF';subst hF';exact fun _ i j _ hj=>pcs_clos (fun i=>l.getD i 0) (i:=i) hj
        conv=>whnf
        refine .inr ?_
        conv=>whnf
        refine⟨_,kb,?_⟩
        conv=>whnf
        refine⟨by show l.length+m.length≤16777216;omega,fun x y hx hy=>one_pcs (h:=fun i=>m.getD i 0) (i:=x) hy,?_⟩
        conv=>whnf
        refine Weak.gen1 (tl:=[(0,.c (.gs 1 0))]) (xs:=[lB (l++m)]) [some 3] rfl rfl ?_ ?_
        · exact⟨⟨_,rfl,rfl,rfl,List.length_append.symm,rfl,fun i y hi hy=>regE (app_list l m hy) (pcs_clos (fun i=>(l++m).getD i 0) (i:=i) hy)⟩,trivial⟩
        · exact⟨⟨_,rfl,rfl,rfl⟩,trivial⟩
set_option maxHeartbeats 8000000 in
theorem sep_nil {d:Nat} {f:Pol (Zp p)} (hd:d≤100) (hl:f.len=1) (h1:1≤d):FnM Tryz.prog true 106 phB [.c (.int .i64 p),.c (.int .i64 d),pl f] (.c (.gs 1 0)) phB [gb (lB ([]:List (Pol (Zp p))))]:=by
  have hL:(ofP f).1=f.len:=rfl
  refine fnm_ok (E:=E1m) E1m_ok Tryz.func106 rfl mixed (by kernel_rfl) (by kernel_rfl) rfl ?_
  conv=>whnf
  refine⟨Fp.i64 (by omega) (by omega),?_⟩
  conv=>whnf
  refine bpos (show decide ((f.len:Int)-1≤(d:Int))=true from decide_eq_true (by omega)) ?_
  conv=>whnf
  refine bpos (show decide ((f.len:Int)=1)=true from decide_eq_true (by omega)) ?_
  conv=>whnf
  refine Weak.gen1 (tl:=[(0,.c (.gs 1 0))]) (xs:=[lB ([]:List (Pol (Zp p)))]) [none] rfl rfl ?_ ?_
  · exact⟨rfl,trivial⟩
  · exact⟨rfl,trivial⟩
set_option maxHeartbeats 8000000 in
theorem sep_one {d:Nat} {f:Pol (Zp p)} (hd:d≤100) (hl:f.len≤d+1) (h1:1<f.len):FnM Tryz.prog true 106 phB [.c (.int .i64 p),.c (.int .i64 d),pl f] (.c (.gs 1 0)) phB [gb (lB [f])]:=by
  have hL:(ofP f).1=f.len:=rfl
  refine fnm_ok (E:=E1m) E1m_ok Tryz.func106 rfl mixed (by kernel_rfl) (by kernel_rfl) rfl ?_
  conv=>whnf
  refine⟨Fp.i64 (by omega) (by omega),?_⟩
  conv=>whnf
  refine bpos (show decide ((f.len:Int)-1≤(d:Int))=true from decide_eq_true (by omega)) ?_
  conv=>whnf
  refine bneg (show decide ((f.len:Int)=1)=false from decide_eq_false (by omega)) ?_
  conv=>whnf
  refine Weak.gen1 (tl:=[(0,.c (.gs 1 0))]) (xs:=[lB [f]]) [some 1] rfl rfl ?_ ?_
  · refine⟨⟨_,rfl,rfl,rfl,rfl,rfl,fun i y hi hy=>?_⟩,trivial⟩
    obtain rfl : y = 0 := by have h : y < 1 := hy
                             omega
    obtain rfl : i = 0 := by have h : i < 1 := hi
                             omega
    exact reg_pc (a:=f) rfl
  · exact⟨⟨_,rfl,rfl,rfl⟩,trivial⟩
theorem sep_P (hm : Fp.md p) : ∀ (k : Nat) {d : Nat} {f : Pol (Zp p)}, f.len ≤ k → 1 ≤ d → d ≤ 100 → f.len ≤ 65 → Eqd d f → ∃ l : List (Pol (Zp p)), IrL f l ∧ l.length + 1 ≤ f.len ∧ FnM Tryz.prog true 106 phB [.c (.int .i64 p), .c (.int .i64 d), pl f] (.c (.gs 1 0)) phB [gb (lB l)]
  | 0,d,f,hk,_,_,_,h=>absurd (Pol.len_nil (a:=f) (by omega)) h.ne
  | k+1,d,f,hk,hd,hd2,hl,h=>by
    have hm1:=hm.1
    have hm2:=hm.2.1
    have h0:=Pol.len_pos h.ne
    by_cases h1:f.len=1
    · exact⟨[],IrL.nil h.ne (by omega),by show 0+1≤f.len;omega,sep_nil hd2 h1 hd⟩
    by_cases h2:f.len≤d+1
    · exact⟨[f],IrL.one (h.small h2 (by omega)) h.lead,by show 1+1≤f.len;omega,sep_one hd2 h2 (by omega)⟩
    obtain⟨N,hN,hmin⟩:=ex_least (Q:=fun n=>p.toNat≤n/\n<2^50/\(Proper f (Pol.gd f (trl f n))∨Proper f (Pol.gd f (hlv d f (trl f n))))) (trial_ex hm hd h (by omega) hl)
    obtain⟨N1,N2,N3⟩:=hN
    have tl:∀ n,(trl f n).len<f.len:=fun n=>(Pol.rm_spec (dgp p n) h.ne).2
    have hv:=fun n=>halves_P hm (d:=d) (f:=f) (t:=trl f n) hd (by omega) h.ne (by omega) (by have:=tl n;omega)
    have g1:=fun n=>gd_P hm (a:=f) (b:=trl f n) (by omega) (by have:=tl n;omega) (.inl h.ne)
    have g2:=fun n=>gd_P hm (a:=f) (b:=hlv d f (trl f n)) (by omega) (by have:=(hv n).2;omega) (.inl h.ne)
    have dl:∀ n,n<2^50->(dgp p n).len≤4096:=fun n hn=>by
      refine Nat.le_trans (Pol.len_le (n:=50) fun j hj=>?_) (by decide)
      refine Zp.v_zero.1 ?_
      rw[dgp_v,Nat.div_eq_of_lt,Nat.zero_mod]
      · rfl
      · have h2:=two_le (p:=p)
        refine Nat.lt_of_lt_of_le hn (Nat.le_trans (Nat.pow_le_pow_right (by decide) hj) (Nat.pow_le_pow_left h2 j))
    have W:SpW d f N (trl f) (fun n=>hlv d f (trl f n)) (fun n=>Pol.gd f (trl f n)) (fun n=>Pol.gd f (hlv d f (trl f n))) :=
      ⟨N2,N1,fun n hn=>(rm_P hm (dl n (by omega)) h.ne (by omega)).weak,fun n=>(g1 n).2.weak,fun n=>(hv n).1,fun n=>(g2 n).2.weak,fun n a b c=>hmin n b ⟨a,by omega,.inl c⟩,fun n a b c=>hmin n b ⟨a,by omega,.inr c⟩⟩
    have fin:∀ g:Pol (Zp p),Pol.Dvs g f->g.lead=1->g≠0->Proper f g->∃ l m:List (Pol (Zp p)),IrL f (l++m)/\(l++m).length+1≤f.len/\l.length≤65/\m.length≤65/\FnOK Tryz.prog true 104 [.c (.int .i64 p),pl f,pl g] (.t2 (pl (Pol.qo f g)) (pl (0:Pol (Zp p))))/\FnM Tryz.prog true 106 phB [.c (.int .i64 p),.c (.int .i64 d),pl g] (.c (.gs 1 0)) phB [gb (lB l)]/\FnOK Tryz.prog true 106 [.c (.int .i64 p),.c (.int .i64 d),pl (Pol.qo f g)] (.c (.row 1 m.length (pcs fun i=>m.getD i 0))):=fun g gd gl g0 gp=>by
      obtain⟨e1,e2,e3,e4⟩:=sep_two h gl gd g0 gp
      obtain⟨p1,p2⟩:=gp
      obtain⟨l,l1,l2,l3⟩:=sep_P hm k (d:=d) (f:=g) (by omega) hd hd2 (by omega) e1
      obtain⟨m,m1,m2,m3⟩:=sep_P hm k (d:=d) (f:=Pol.qo f g) (by omega) hd hd2 (by omega) e2
      refine⟨l,m,e4 l m l1 m1,by rw[List.length_append];omega,by omega,by omega,(qo_P hm (by omega) g0 (by omega) gd).weak,l3,m3.shut (fun i j _ hj=>pcs_clos (fun i=>m.getD i 0) (i:=i) hj) rfl⟩
    by_cases c:Proper f (Pol.gd f (trl f N))
    · have g:=(g1 N).1
      obtain⟨l,m,a1,a2,a3,a4,a5,a6,a7⟩:=fin _ g.da g.lead g.ne c
      exact⟨l++m,a1,a2,sep_walk1 hm (by omega) hl W c a3 a4 a5 a6 a7⟩
    · have g:=(g2 N).1
      have c2:Proper f (Pol.gd f (hlv d f (trl f N))):=N3.resolve_left c
      obtain⟨l,m,a1,a2,a3,a4,a5,a6,a7⟩:=fin _ g.da g.lead g.ne c2
      exact⟨l++m,a1,a2,sep_walk2 hm (by omega) hl W c2 c a3 a4 a5 a6 a7⟩
end
end Go.Proofs.YtibaocbpeaejkaaGreat
/- The program's fpoly.factors: what its rounds gather. -/
namespace Go.Proofs.YtibaocbpeaejkaaGreat
open Go.RowKit
section
variable {p:Int} [hp:Prm p]
theorem irr_len : ∀ (l : List (Pol (Zp p))) {f : Pol (Zp p)}, f ≠ 0 → (∀ x ∈ l, Pol.Irr x ∧ x.lead = 1 ∧ Pol.Dvs x f) → l.Pairwise (· ≠ ·) → l.length + 1 ≤ f.len
 | [],f,h0,_,_=>Pol.len_pos h0
 | P :: l,f,h0,h,hn=>by
  rw[List.pairwise_cons]at hn
  obtain⟨iP,lP,c,hc⟩:=h P (by simp)
  have hc0:c≠0:=fun e=>h0 (by rw[hc,e,Crg.mul_zero])
  have h1:=irr_len l (f:=c) hc0 (fun x hx=>by
   obtain⟨ix,lx,dx⟩:=h x (by simp[hx])
   rw[hc]at dx
   rcases ix.prime dx with h2 | h2
   ·exact absurd (ix.eq iP lx lP h2).symm (hn.1 x hx)
   ·exact⟨ix,lx,h2⟩) hn.2
  have h2:=Pol.len_mul iP.ne hc0
  rw[← hc]at h2
  have:=iP.two
  show l.length+1+1≤f.len
  omega
theorem fac_len {l:List (Pol (Zp p) × Nat)} {f:Pol (Zp p)} (h0:f≠0) (h:∀ c∈l,Pol.Irr c.1/\c.1.lead=1/\Pol.Dvs c.1 f) (hn:l.Pairwise fun a b=>a.1≠b.1):l.length+1≤f.len:=by
 have:=irr_len (l.map Prod.fst) h0 (fun x hx=>by
  obtain⟨c,hc,rfl⟩:=List.mem_map.1 hx
  exact h c hc) (List.pairwise_map.2 hn)
 rwa [List.length_map]at this
structure FacQ (f : Pol (Zp p)) (t e : Nat) (L : List (Pol (Zp p) × Nat)) : Prop where
 all:∀ c∈L,Pol.Irr c.1/\c.1.lead=1/\Pol.Dvs c.1 f/\c.2=t*val c.1 f/\val c.1 f%p.toNat≠0/\val c.1 f<e
 mem:∀ P,Pol.Irr P->P.lead=1->Pol.Dvs P f->val P f%p.toNat≠0->val P f<e->(P,t*val P f)∈L
 nd:L.Pairwise fun a b=>a.1≠b.1
theorem FacQ.start {f:Pol (Zp p)} {t:Nat}:FacQ f t 1 [] :=
 ⟨fun c hc=>absurd hc (by simp),fun P _ _ _ h1 h2=>absurd (show val P f%p.toNat=0 by rw[show val P f=0 by omega];exact Nat.zero_mod _) h1,List.Pairwise.nil⟩
theorem FacQ.step {f o:Pol (Zp p)} {t e:Nat} {L:List (Pol (Zp p) × Nat)} {l:List (Pol (Zp p))} (h:FacQ f t e L) (ho:Pol.Dvs o f) (hv:∀ P,Pol.Irr P->(Pol.Dvs P o↔val P f%p.toNat≠0/\val P f=e)) (hl:IrL o l):FacQ f t (e+1) (L++l.map fun P=>(P,t*e)):=by
 refine⟨fun c hc=>?_,fun P hP lP dP h1 h2=>?_,?_⟩
 ·rcases List.mem_append.1 hc with h3 | h3
  ·obtain⟨a1,a2,a3,a4,a5,a6⟩:=h.all c h3
   exact⟨a1,a2,a3,a4,a5,by omega⟩
  ·obtain⟨P,hP,rfl⟩:=List.mem_map.1 h3
   obtain⟨b1,b2,b3⟩:=hl.all P hP
   obtain⟨b4,b5⟩:=(hv P b1).1 b3
   exact⟨b1,b2,b3.trans ho,by show t*e=t*val P f;rw[b5],b4,by show val P f<e+1;omega⟩
 ·rcases Nat.lt_or_ge (val P f) e with h3 | h3
  ·exact List.mem_append.2 (.inl (h.mem P hP lP dP h1 h3))
  ·have h4:val P f=e:=by omega
   refine List.mem_append.2 (.inr (List.mem_map.2 ⟨P,hl.mem P hP lP ((hv P hP).2 ⟨h1,h4⟩),by rw[h4]⟩))
 ·refine List.pairwise_append.2 ⟨h.nd,List.pairwise_map.2 (hl.nd.imp fun h=>h),fun a ha b hb e1=>?_⟩
  obtain⟨a1,a2,a3,a4,a5,a6⟩:=h.all a ha
  obtain⟨P,hP,rfl⟩:=List.mem_map.1 hb
  obtain⟨b1,b2,b3⟩:=hl.all P hP
  obtain⟨b4,b5⟩:=(hv P b1).1 b3
  have e1:a.1=P:=e1
  rw[e1]at a6
  omega
theorem FacQ.fin {f r:Pol (Zp p)} {t e:Nat} {L l:List (Pol (Zp p) × Nat)} (h:FacQ f t e L) (h0:f≠0) (r0:r≠0) (hr:∀ P,Pol.Irr P->(val P f%p.toNat≠0->val P f<e)/\val P r=if val P f%p.toNat=0 then val P f else 0) (hl:FacL r t l):FacL f t (L++l):=by
 have key:∀ P,Pol.Irr P->Pol.Dvs P r->val P f%p.toNat=0/\val P r=val P f/\Pol.Dvs P f:=fun P hP hd=>by
  have h1:=(val_pos hP r0).1 hd
  have h2:=(hr P hP).2
  by_cases c:val P f%p.toNat=0
  ·rw[if_pos c]at h2
   exact⟨c,h2,(val_pos hP h0).2 (by omega)⟩
  ·rw[if_neg c]at h2
   omega
 refine⟨fun c hc=>?_,fun P hP lP dP=>?_,?_⟩
 ·rcases List.mem_append.1 hc with h3 | h3
  ·obtain⟨a1,a2,a3,a4,a5,a6⟩:=h.all c h3
   exact⟨a1,a2,a3,a4⟩
  ·obtain⟨a1,a2,a3,a4⟩:=hl.all c h3
   obtain⟨b1,b2,b3⟩:=key _ a1 a3
   exact⟨a1,a2,b3,by rw[a4,b2]⟩
 ·obtain⟨h1,h2⟩:=hr P hP
  by_cases c:val P f%p.toNat=0
  ·rw[if_pos c]at h2
   have h3:=(val_pos hP h0).1 dP
   have:=hl.mem P hP lP ((val_pos hP r0).2 (by omega))
   rw[h2]at this
   exact List.mem_append.2 (.inr this)
  ·exact List.mem_append.2 (.inl (h.mem P hP lP dP c (h1 c)))
 ·refine List.pairwise_append.2 ⟨h.nd,hl.nd,fun a ha b hb e1=>?_⟩
  obtain⟨a1,a2,a3,a4,a5,a6⟩:=h.all a ha
  obtain⟨b1,b2,b3,b4⟩:=hl.all b hb
  have:=(key _ b1 b3).1
  rw[← e1]at this
  exact a5 this
def ccl (s : Nat → List (Pol (Zp p))) : Nat → List (Pol (Zp p))
 | 0=>[]
 | d+1=>ccl s d++s d
theorem ccl_irl {o:Pol (Zp p)} {N:Nat} {q:Nat->Pol (Zp p)} {s:Nat->List (Pol (Zp p))} (hb:ByD o N q) (hN:∀ P,Pol.Irr P->Pol.Dvs P o->P.len≤N) (hs:∀ i,i<N->IrL (q i) (s i)):IrL o (ccl s N):=by
 have key:∀ d,d≤N->(∀ x∈ccl s d,Pol.Irr x/\x.lead=1/\Pol.Dvs x o/\x.len≤d)/\(∀ P,Pol.Irr P->P.lead=1->Pol.Dvs P o->P.len≤d->P∈ccl s d)/\(ccl s d).Pairwise (·≠·):=fun d=>by
  induction d with
  | zero=>exact fun _=>⟨fun x hx=>absurd hx (by simp[ccl]),fun P hP _ _ h=>by have:=hP.two;omega,List.Pairwise.nil⟩
  | succ d ih =>
   intro hd
   obtain⟨h1,h2,h3⟩:=ih (by omega)
   have hsd:=hs d (by omega)
   have irr:=hb.irr d (by omega)
   refine⟨fun x hx=>?_,fun P hP lP dP hl=>?_,List.pairwise_append.2 ⟨h3,hsd.nd,fun a ha b hb e=>?_⟩⟩
   ·rcases List.mem_append.1 hx with h4 | h4
    ·obtain⟨a1,a2,a3,a4⟩:=h1 x h4
     exact⟨a1,a2,a3,by omega⟩
    ·obtain⟨a1,a2,a3⟩:=hsd.all x h4
     obtain⟨b1,b2⟩:=(irr x a1).1 a3
     exact⟨a1,a2,b1,by omega⟩
   ·rcases Nat.lt_or_ge d P.len with h4 | h4
    ·exact List.mem_append.2 (.inr (hsd.mem P hP lP ((irr P hP).2 ⟨dP,by omega⟩)))
    ·exact List.mem_append.2 (.inl (h2 P hP lP dP h4))
   ·obtain⟨a1,a2,a3,a4⟩:=h1 a ha
    obtain⟨c1,c2,c3⟩:=hsd.all b hb
    have:=((irr b c1).1 c3).2
    rw[← e]at this
    omega
 obtain⟨h1,h2,h3⟩:=key N (Nat.le_refl N)
 exact⟨fun x hx=>⟨(h1 x hx).1,(h1 x hx).2.1,(h1 x hx).2.2.1⟩,fun P hP lP dP=>h2 P hP lP dP (hN P hP dP),h3⟩
theorem ByD.eqd {o:Pol (Zp p)} {N i:Nat} {q:Nat->Pol (Zp p)} (hb:ByD o N q) (hs:Pol.Sqf o) (hi:i<N):Eqd (max i 1) (q i):=by
 obtain⟨h1,h2,h3⟩:=hb.ne i hi
 refine⟨h1,h2,hs.of_dvs h3,fun P hP hd=>?_⟩
 have h4:=((hb.irr i hi P hP).1 hd).2
 have:=hP.two
 omega
theorem FacL.root {f:Pol (Zp p)} {t:Nat} {l:List (Pol (Zp p) × Nat)} (h0:f≠0) (hd:Pol.dv f=0) (h:FacL (rtp f) (t*p.toNat) l):FacL f t l:=by
 have e:=root_p hd
 have h2:=two_le (p:=p)
 have r0:rtp f≠0:=fun e1=>h0 (by
  rw[← e,e1]
  obtain⟨k,hk⟩:∃ k,p.toNat=k+1:=⟨p.toNat-1,by omega⟩
  rw[hk]
  exact Crg.mul_zero _)
 have hv:∀ P,Pol.Irr P->val P f=p.toNat*val P (rtp f):=fun P hP=>by
  have:=val_pw hP r0 p.toNat
  rwa [e]at this
 have hdv:∀ P,Pol.Irr P->(Pol.Dvs P f↔Pol.Dvs P (rtp f)):=fun P hP=>by
  rw[val_pos hP h0,val_pos hP r0,hv P hP]
  refine⟨fun h=>?_,fun h=>Nat.le_trans h (Nat.le_mul_of_pos_left _ (by omega))⟩
  rcases Nat.eq_zero_or_pos (val P (rtp f))with h3 | h3
  ·rw[h3,Nat.mul_zero]at h;omega
  ·exact h3
 refine⟨fun c hc=>?_,fun P hP lP dP=>?_,h.nd⟩
 ·obtain⟨a1,a2,a3,a4⟩:=h.all c hc
  exact⟨a1,a2,(hdv _ a1).2 a3,by rw[a4,hv _ a1,Nat.mul_assoc]⟩
 ·have:=h.mem P hP lP ((hdv P hP).1 dP)
  rwa [Nat.mul_assoc,← hv P hP]at this
theorem rtp_lead {f:Pol (Zp p)} (h0:f≠0) (hl:f.lead=1) (hd:Pol.dv f=0):rtp f≠0/\(rtp f).lead=1:=by
 obtain⟨k,e1,e2⟩:=rtp_len hd h0
 refine⟨Pol.ne_of_len (by omega),?_⟩
 rw[← hl]
 show f.f (p.toNat*((rtp f).len-1))=f.f (f.len-1)
 rw[e2,e1]
 rfl
end
end Go.Proofs.YtibaocbpeaejkaaGreat
/- The program's fpoly.factors: the walk. -/
namespace Go.Proofs.YtibaocbpeaejkaaGreat
open Go.RowKit
section
variable {p:Int} [hp:Prm p]
noncomputable abbrev fcs (l:List (Pol (Zp p) × Nat)):Nat->Nat->Cell:=fun i y=>([pc (l.getD i (0,0)).1,.int .i64 ((l.getD i (0,0)).2:Nat)]:List Cell).getD y .any
noncomputable abbrev fcB (l:List (Pol (Zp p) × Nat)):Gx:=⟨55,2,l.length,fcs l⟩
theorem fcs_clos (l:List (Pol (Zp p) × Nat)) {i y:Nat} (hy:y<2):(fcs l i y).clos=true:=by
 match y,hy with
 | 0,_=>rfl
 | 1,_=>rfl
theorem one_fcs {bl:List Blk} {r:Prop} {l:List (Pol (Zp p) × Nat)} {i y:Nat} (hy:y<2):St.one bl (fcs l i y)=true/\(r->(fcs l i y).noU=true):=by
 match y,hy with
 | 0,_=>exact⟨rfl,fun _=>rfl⟩
 | 1,_=>exact⟨rfl,fun _=>rfl⟩
theorem getD_left {α:Type} {l m:List α} {i:Nat} {d:α} (h:i<l.length):(l++m).getD i d=l.getD i d:=by simp only[List.getD_eq_getElem?_getD,List.getElem?_append_left h]
theorem getD_right {α:Type} {l m:List α} {i:Nat} {d:α} (h:¬ i<l.length):(l++m).getD i d=m.getD (i-l.length) d:=by simp only[List.getD_eq_getElem?_getD,List.getElem?_append_right (Nat.le_of_not_lt h)]
theorem app_fcs (l m:List (Pol (Zp p) × Nat)) (i y:Nat):appF l.length (fcs l) (fcs m) i y=fcs (l++m) i y:=by
 unfold appF
 split
 ·rename_i h
  show _=([pc ((l++m).getD i (0,0)).1,_]:List Cell).getD y .any
  rw[getD_left h]
 ·rename_i h
  show _=([pc ((l++m).getD i (0,0)).1,.int .i64 (((l++m).getD i (0,0)).2:Nat)]:List Cell).getD y .any
  rw[getD_right h]
theorem app_fcs1 (l:List (Pol (Zp p) × Nat)) {l':List (Pol (Zp p) × Nat)} {a:Pol (Zp p)} {v:Nat} {z:Int} (hz:z=v) (hl:l'=l++[(a,v)]) {i y:Nat} (hi:i<l.length+1) (hy:y<2):appF l.length (fcs l) (rowF 2 [pc a,.int .i64 z]) i y=fcs l' i y:=by
 subst hl
 subst hz
 rw[← app_fcs]
 unfold appF
 split
 ·rfl
 ·have e:i-l.length=0:=by omega
  rw[e]
  match y,hy with
  | 0,_=>rfl
  | 1,_=>rfl
structure FcW (t E : Nat) (s r o : Nat → Pol (Zp p)) (N : Nat → Nat) (q : Nat → Nat → Pol (Zp p)) (S : Nat → Nat → List (Pol (Zp p))) (B : Nat → Nat → Nat → List (Pol (Zp p) × Nat)) : Prop where
 k1:∀ j,j<E->FnOK Tryz.prog true 103 [.c (.int .i64 p),pl (s j),pl (r j)] (pl (s (j+1)))
 k2:∀ j,j<E->FnOK Tryz.prog true 104 [.c (.int .i64 p),pl (s j),pl (s (j+1))] (.t2 (pl (o j)) (pl (0:Pol (Zp p))))
 k3:∀ j,j<E->FnOK Tryz.prog true 105 [.c (.int .i64 p),pl (o j)] (.c (.row 1 (N j) (pcs (q j))))
 k4:∀ j,j<E->∀ i,i<N j->FnOK Tryz.prog true 106 [.c (.int .i64 p),.c (.int .i64 (if(1:Int) > (i:Int)then 1 else(i:Int))),pl (q j i)] (.c (.row 1 (S j i).length (pcs fun x=>(S j i).getD x 0)))
 k5:∀ j,j<E->FnOK Tryz.prog true 104 [.c (.int .i64 p),pl (r j),pl (s (j+1))] (.t2 (pl (r (j+1))) (pl (0:Pol (Zp p))))
 ex:∀ j,j<E->1<(s j).len
 ee:(s E).len≤1
 ls:∀ j,(s j).len≤65
 kE:E≤100
 kt:t≤64
 kN:∀ j,j<E->N j≤100
 kS:∀ j,j<E->∀ i,i<N j->(S j i).length≤100
 b0:B 0 0 0=[]
 b1:∀ j i x,x<(S j i).length->B j i (x+1)=B j i x++[((S j i).getD x 0,t*(j+1))]
 b2:∀ j i,B j (i+1) 0=B j i (S j i).length
 b3:∀ j,B (j+1) 0 0=B j (N j) 0
 bl:∀ j,j<E->∀ i,i<N j->∀ x,x≤(S j i).length->(B j i x).length≤5000000
 be:(B E 0 0).length≤5000000
set_option maxHeartbeats 16000000 in
theorem fac_walk {f g : Pol (Zp p)} {t E : Nat} {s r o : Nat → Pol (Zp p)} {N : Nat → Nat} {q : Nat → Nat → Pol (Zp p)} {S : Nat → Nat → List (Pol (Zp p))} {B : Nat → Nat → Nat → List (Pol (Zp p) × Nat)} {l : List (Pol (Zp p) × Nat)} (W : FcW t E s r o N q S B) (hf : 1 < f.len) (hg : 0 < g.len) (hll : l.length ≤ 65)
  (kd:FnOK Tryz.prog true 101 [.c (.int .i64 p),pl f] (pl g))
  (kg:FnOK Tryz.prog true 103 [.c (.int .i64 p),pl f,pl g] (pl (r 0)))
  (kq:FnOK Tryz.prog true 104 [.c (.int .i64 p),pl f,pl (r 0)] (.t2 (pl (s 0)) (pl (0:Pol (Zp p)))))
  (kf:FnOK Tryz.prog true 60 [.c (.int .i64 p),pl (r E),.c (.int .i64 t)] (.c (.row 2 l.length (fcs l)))) :
  FnM Tryz.prog true 60 phB [.c (.int .i64 p),pl f,.c (.int .i64 t)] (.c (.gs 1 0)) phB [gb (fcB (B E 0 0++l))]:=by
 obtain⟨k1,k2,k3,k4,k5,ex,ee,ls,kE,kt,kN,kS,b0,b1,b2,b3,bl,be⟩:=W
 refine fnm_ok (E:=E1m) E1m_ok Tryz.func60 rfl mixed (by kernel_rfl) (by kernel_rfl) rfl ?_
 conv=>whnf
 refine bneg (show decide ((f.len:Int)≤1)=false from decide_eq_false (by omega)) ?_
 conv=>whnf
 refine⟨_,kd,?_⟩
 conv=>whnf
 refine bneg (show decide ((g.len:Int)=0)=false from decide_eq_false (by omega)) ?_
 conv=>whnf
 refine⟨_,kg,?_⟩
 conv=>whnf
 refine⟨_,kq,?_⟩
 conv=>whnf
 refine loop_ints1 (fun j:Nat=>gst1 [(0,.c (.int .i64 p)),(2,.c (.int .i64 t)),(8,.c (.gs 1 0)),(9,pl (r j)),(10,pl (s j)),(12,.c (.int .i64 ((j:Int)+1)))] [fcB (B j 0 0)]) (fun j=>E-j) (fun j=>j≤E) 0 rfl ?_ (Nat.zero_le _) fun j hj=>?_
 ·exact Weak.gen1 [none] rfl rfl ⟨congrArg List.length b0,trivial⟩ ⟨⟨_,rfl,rfl⟩,⟨_,rfl,rfl⟩,rfl,.inl ⟨_,_,rfl,rfl,fun _ _ _ _=>rfl⟩,.inl ⟨_,_,rfl,rfl,fun _ _ _ _=>rfl⟩,⟨_,rfl,rfl⟩,trivial⟩
 have k1:=k1 j
 have k2:=k2 j
 have k3:=k3 j
 have k4:=k4 j
 have k5:=k5 j
 have ex:=ex j
 have ls:=ls j
 have kN:=kN j
 have kS:=kS j
 have b1:=b1 j
 have b2:=b2 j
 have b3:=b3 j
 have bl:=bl j
 have hL:(ofP (s j)).1=(s j).len:=rfl
 rcases Nat.lt_or_ge j E with hjE | hjE
 ·have k1:=k1 hjE
  have k2:=k2 hjE
  have k3:=k3 hjE
  have k4:=k4 hjE
  have k5:=k5 hjE
  have ex:=ex hjE
  have kN:=kN hjE
  have kS:=kS hjE
  have bl:=bl hjE
  conv=>whnf
  refine bpos (show decide ((1:Int)<((s j).len:Int))=true from decide_eq_true (by omega)) ?_
  conv=>whnf
  refine⟨_,k1,?_⟩
  conv=>whnf
  refine⟨_,k2,?_⟩
  conv=>whnf
  refine⟨_,k3,?_⟩
  conv=>whnf
  refine loop_ints1 (fun i:Nat=>gst1 [(0,.c (.int .i64 p)),(2,.c (.int .i64 t)),(8,.c (.gs 1 0)),(9,pl (r j)),(12,.c (.int .i64 ((j:Int)+1))),(13,pl (s (j+1))),(66,.c (.row 1 (N j) (pcs (q j)))),(67,.c (.int .i64 (N j))),(68,.c (.int .i64 i))] [fcB (B j i 0)]) (fun i=>N j-i) (fun i=>i≤N j) 0 rfl ?_ (Nat.zero_le _) fun i hi=>?_
  ·exact Weak.gen1 [some 1] rfl rfl ⟨⟨_,rfl,rfl,rfl,rfl,rfl,fun i y hi hy=>regE rfl (fcs_clos _ hy)⟩,trivial⟩ ⟨⟨_,rfl,rfl⟩,⟨_,rfl,rfl⟩,⟨_,rfl,rfl,rfl⟩,.inl ⟨_,_,rfl,rfl,fun _ _ _ _=>rfl⟩,⟨_,rfl,rfl⟩,.inl ⟨_,_,rfl,rfl,fun _ _ _ _=>rfl⟩,.inl ⟨_,_,rfl,rfl,fun _ _ _ _=>rfl⟩,⟨_,rfl,rfl⟩,⟨_,rfl,rfl⟩,trivial⟩
  rcases Nat.lt_or_ge i (N j)with hiN | hiN
  ·have k4:=k4 i hiN
   have kS:=kS i hiN
   have b1:=b1 i
   have b2:=b2 i
   have bl:=bl i hiN
   conv=>whnf
   refine bpos (show decide ((i:Int)<(N j:Int))=true from decide_eq_true (by omega)) ?_
   conv=>whnf
   refine⟨by omega,by omega,?_⟩
   conv=>whnf
   refine .inr ?_
   conv=>whnf
   refine⟨_,k4,?_⟩
   conv=>whnf
   refine loop_ints1 (fun x:Nat=>gst1 [(0,.c (.int .i64 p)),(2,.c (.int .i64 t)),(8,.c (.gs 1 0)),(9,pl (r j)),(12,.c (.int .i64 ((j:Int)+1))),(13,pl (s (j+1))),(66,.c (.row 1 (N j) (pcs (q j)))),(67,.c (.int .i64 (N j))),(68,.c (.int .i64 i)),(77,.c (.row 1 (S j i).length (pcs fun x=>(S j i).getD x 0))),(78,.c (.int .i64 (S j i).length)),(79,.c (.int .i64 x))] [fcB (B j i x)]) (fun x=>(S j i).length-x) (fun x=>x≤(S j i).length) 0 rfl ?_ (Nat.zero_le _) fun x hx=>?_
   ·exact Weak.gen1 [some 1] rfl rfl ⟨⟨_,rfl,rfl,rfl,rfl,rfl,fun i y hi hy=>regE rfl (fcs_clos _ hy)⟩,trivial⟩ ⟨⟨_,rfl,rfl⟩,⟨_,rfl,rfl⟩,⟨_,rfl,rfl,rfl⟩,.inl ⟨_,_,rfl,rfl,fun _ _ _ _=>rfl⟩,⟨_,rfl,rfl⟩,.inl ⟨_,_,rfl,rfl,fun _ _ _ _=>rfl⟩,.inl ⟨_,_,rfl,rfl,fun _ _ _ _=>rfl⟩,⟨_,rfl,rfl⟩,⟨_,rfl,rfl⟩,.inl ⟨_,_,rfl,rfl,fun _ _ _ _=>rfl⟩,⟨_,rfl,rfl⟩,⟨_,rfl,rfl⟩,trivial⟩
   rcases Nat.lt_or_ge x (S j i).length with hxS | hxS
   ·have b1:=b1 x hxS
    have bl:=bl x hx
    have hz:((j:Int)+1)*(t:Int)=((t*(j+1):Nat):Int):=by rw[Int.natCast_mul,Int.mul_comm];rfl
    have hz2:t*(j+1)≤64*101:=Nat.mul_le_mul kt (by omega)
    have bl2:(B j i (x+1)).length=(B j i x).length+1:=by rw[b1,List.length_append];rfl
    conv=>whnf
    refine bpos (show decide ((x:Int)<((S j i).length:Int))=true from decide_eq_true (by omega)) ?_
    conv=>whnf
    refine⟨by omega,by omega,?_⟩
    conv=>whnf
    refine⟨Fp.i64 (by omega) (by omega),?_⟩
    conv=>whnf
    refine⟨by show(B j i x).length+1≤16777216;omega,fun a y ha hy=>?_,?_⟩
    ·have ha:a<1:=ha
     have hy:y<2:=hy
     match a,y,ha,hy with
     | 0,0,_,_=>exact⟨rfl,fun _=>rfl⟩
     | 0,1,_,_=>exact⟨rfl,fun _=>rfl⟩
    conv=>whnf
    refine⟨Fp.i64 (by omega) (by omega),?_⟩
    conv=>whnf
    refine⟨x+1,by omega,Weak.gen1 [some 1] rfl rfl ⟨⟨_,rfl,rfl,rfl,bl2.symm,rfl,fun i y hi hy=>regE (app_fcs1 _ hz b1 (Nat.lt_of_lt_of_eq hi bl2) hy) (fcs_clos _ hy)⟩,trivial⟩ ⟨⟨_,rfl,rfl⟩,⟨_,rfl,rfl⟩,⟨_,rfl,rfl,rfl⟩,.inl ⟨_,_,rfl,rfl,fun _ _ _ _=>rfl⟩,⟨_,rfl,rfl⟩,.inl ⟨_,_,rfl,rfl,fun _ _ _ _=>rfl⟩,.inl ⟨_,_,rfl,rfl,fun _ _ _ _=>rfl⟩,⟨_,rfl,rfl⟩,⟨_,rfl,rfl⟩,.inl ⟨_,_,rfl,rfl,fun _ _ _ _=>rfl⟩,⟨_,rfl,rfl⟩,⟨_,rfl,rfl⟩,trivial⟩,by omega⟩
   ·obtain rfl:x=(S j i).length:=by omega
    conv=>whnf
    refine bneg (show decide (((S j i).length:Int)<((S j i).length:Int))=false from decide_eq_false (by omega)) ?_
    conv=>whnf
    refine⟨Fp.i64 (by omega) (by omega),?_⟩
    conv=>whnf
    refine⟨i+1,by omega,Weak.gen1 [some 1] rfl rfl ⟨⟨_,rfl,rfl,rfl,congrArg List.length b2.symm,rfl,fun i y hi hy=>regE (congrFun (congrFun (congrArg fcs b2.symm) i) y) (fcs_clos _ hy)⟩,trivial⟩ ⟨⟨_,rfl,rfl⟩,⟨_,rfl,rfl⟩,⟨_,rfl,rfl,rfl⟩,.inl ⟨_,_,rfl,rfl,fun _ _ _ _=>rfl⟩,⟨_,rfl,rfl⟩,.inl ⟨_,_,rfl,rfl,fun _ _ _ _=>rfl⟩,.inl ⟨_,_,rfl,rfl,fun _ _ _ _=>rfl⟩,⟨_,rfl,rfl⟩,⟨_,rfl,rfl⟩,trivial⟩,by omega⟩
  ·obtain rfl:i=N j:=by omega
   conv=>whnf
   refine bneg (show decide ((N j:Int)<(N j:Int))=false from decide_eq_false (by omega)) ?_
   conv=>whnf
   refine⟨_,k5,?_⟩
   conv=>whnf
   refine⟨Fp.i64 (by omega) (by omega),?_⟩
   conv=>whnf
   refine⟨j+1,by omega,Weak.gen1 [some 1] rfl rfl ⟨⟨_,rfl,rfl,rfl,congrArg List.length b3.symm,rfl,fun i y hi hy=>regE (congrFun (congrFun (congrArg fcs b3.symm) i) y) (fcs_clos _ hy)⟩,trivial⟩ ⟨⟨_,rfl,rfl⟩,⟨_,rfl,rfl⟩,⟨_,rfl,rfl,rfl⟩,.inl ⟨_,_,rfl,rfl,fun _ _ _ _=>rfl⟩,.inl ⟨_,_,rfl,rfl,fun _ _ _ _=>rfl⟩,⟨_,rfl,by omega⟩,trivial⟩,by omega⟩
 ·obtain rfl:j=E:=by omega
  conv=>whnf
  refine bneg (show decide ((1:Int)<((s j).len:Int))=false from decide_eq_false (by omega)) ?_
  conv=>whnf
  refine .inr ?_
  conv=>whnf
  refine⟨_,kf,?_⟩
  conv=>whnf
  refine⟨by show(B j 0 0).length+l.length≤16777216;omega,fun x y hx hy=>one_fcs (l:=l) (i:=x) hy,?_⟩
  conv=>whnf
  refine Weak.gen1 (tl:=[(0,.c (.gs 1 0))]) (xs:=[fcB (B j 0 0++l)]) [some 1] rfl rfl ?_ ?_
  ·exact⟨⟨_,rfl,rfl,rfl,List.length_append.symm,rfl,fun i y hi hy=>regE (app_fcs (B j 0 0) l i y) (fcs_clos _ hy)⟩,trivial⟩
  ·exact⟨⟨_,rfl,rfl,rfl⟩,trivial⟩
end
end Go.Proofs.YtibaocbpeaejkaaGreat
/- The program's fpoly.factors: all of it. -/
namespace Go.Proofs.YtibaocbpeaejkaaGreat
open Go.RowKit
section
variable {p:Int} [hp:Prm p]
set_option maxHeartbeats 8000000 in
theorem fac_nil {f:Pol (Zp p)} {t:Int} (hf:f.len≤1):FnM Tryz.prog true 60 phB [.c (.int .i64 p),pl f,.c (.int .i64 t)] (.c (.gs 1 0)) phB [gb (fcB ([]:List (Pol (Zp p) × Nat)))]:=by
 have hL:(ofP f).1=f.len:=rfl
 refine fnm_ok (E:=E1m) E1m_ok Tryz.func60 rfl mixed (by kernel_rfl) (by kernel_rfl) rfl ?_
 conv=>whnf
 refine bpos (show decide ((f.len:Int)≤1)=true from decide_eq_true (by omega)) ?_
 conv=>whnf
 refine Weak.gen1 (tl:=[(0,.c (.gs 1 0))]) (xs:=[fcB ([]:List (Pol (Zp p) × Nat))]) [none] rfl rfl ?_ ?_
 ·exact⟨rfl,trivial⟩
 ·exact⟨rfl,trivial⟩
set_option maxHeartbeats 8000000 in
theorem fac_root {f g h : Pol (Zp p)} {t u : Nat} {l : List (Pol (Zp p) × Nat)} (hf : 1 < f.len) (hg : g.len = 0) (hu : (t : Int) * p = u) (hub : u ≤ 64)
  (kd:FnOK Tryz.prog true 101 [.c (.int .i64 p),pl f] (pl g))
  (kr:FnOK Tryz.prog true 102 [.c (.int .i64 p),pl f] (pl h))
  (ka:FnM Tryz.prog true 60 phB [.c (.int .i64 p),pl h,.c (.int .i64 ((t:Int)*p))] (.c (.gs 1 0)) phB [gb (fcB l)]) :
  FnM Tryz.prog true 60 phB [.c (.int .i64 p),pl f,.c (.int .i64 t)] (.c (.gs 1 0)) phB [gb (fcB l)]:=by
 have hL:(ofP f).1=f.len:=rfl
 refine fnm_ok (E:=E1m) E1m_ok Tryz.func60 rfl mixed (by kernel_rfl) (by kernel_rfl) rfl ?_
 conv=>whnf
 refine bneg (show decide ((f.len:Int)≤1)=false from decide_eq_false (by omega)) ?_
 conv=>whnf
 refine⟨_,kd,?_⟩
 conv=>whnf
 refine bpos (show decide ((g.len:Int)=0)=true from decide_eq_true (by omega)) ?_
 conv=>whnf
 refine⟨_,kr,?_⟩
 conv=>whnf
 refine⟨Fp.i64 (by omega) (by omega),?_⟩
 conv=>whnf
 refine .inl ⟨[],false,?_⟩
 conv=>whnf
 refine⟨0,phB,[.c (.int .i64 p),pl h,.c (.int .i64 ((t:Int)*p))],_,_,_,ka,rfl,.inr (Nat.le_refl 2),fun h=>absurd h (by decide),fun h=>absurd h (by decide),fun F' hF'=>?_,rfl,rfl,?_⟩
 ·simp at hF';subst hF';exact fun _ i j _ hj=>fcs_clos l (i:=i) hj
 conv=>whnf
 refine Weak.gen1 (tl:=[(0,.c (.gs 1 0))]) (xs:=[fcB l]) [some 1] rfl rfl ?_ ?_
 ·exact⟨⟨_,rfl,rfl,rfl,rfl,rfl,fun i y hi hy=>regE rfl (fcs_clos _ hy)⟩,trivial⟩
 ·exact⟨⟨_,rfl,rfl,rfl⟩,trivial⟩
def BdP (o:Pol (Zp p)) (x:Nat × (Nat->Pol (Zp p))):Prop:=ByD o x.1 x.2/\(∀ P,Pol.Irr P->Pol.Dvs P o->P.len≤x.1)/\x.1≤o.len+1/\FnOK Tryz.prog true 105 [.c (.int .i64 p),pl o] (.c (.row 1 x.1 (pcs x.2)))
noncomputable def bdC (o:Pol (Zp p)):Nat × (Nat->Pol (Zp p)):=open Classical in if h:∃ x,BdP o x then h.choose else(0,fun _=>0)
theorem bdC_spec (hm:Fp.md p) {o:Pol (Zp p)} (hs:Pol.Sqf o) (h0:o≠0) (h1:o.lead=1) (lf:o.len≤1024):BdP o (bdC o):=by
 have hx:∃ x,BdP o x:=by
  obtain⟨N,q,a,b,_,c,d⟩:=byDegree_P hm hs h0 h1 lf
  exact⟨(N,q),a,b,c,d⟩
 unfold bdC
 rw[dif_pos hx]
 exact hx.choose_spec
def SpP (d:Nat) (f:Pol (Zp p)) (l:List (Pol (Zp p))):Prop:=IrL f l/\l.length+1≤f.len/\FnOK Tryz.prog true 106 [.c (.int .i64 p),.c (.int .i64 d),pl f] (.c (.row 1 l.length (pcs fun x=>l.getD x 0)))
noncomputable def spC (d:Nat) (f:Pol (Zp p)):List (Pol (Zp p)):=open Classical in if h:∃ l,SpP d f l then h.choose else []
theorem spC_spec (hm:Fp.md p) {d:Nat} {f:Pol (Zp p)} (hd:1≤d) (hd2:d≤100) (hl:f.len≤65) (h:Eqd d f):SpP d f (spC d f):=by
 have hx:∃ l,SpP d f l:=by
  obtain⟨l,a,b,c⟩:=sep_P hm f.len (Nat.le_refl _) hd hd2 hl h
  exact⟨l,a,b,c.shut (fun i j _ hj=>pcs_clos (fun i=>l.getD i 0) (i:=i) hj) rfl⟩
 unfold spC
 rw[dif_pos hx]
 exact hx.choose_spec
noncomputable def fcS (f : Pol (Zp p)) : Nat → Pol (Zp p) × Pol (Zp p)
 | 0=>(Pol.qo f (Pol.gd f (Pol.dv f)),Pol.gd f (Pol.dv f))
 | j+1=>(Pol.gd (fcS f j).1 (fcS f j).2,Pol.qo (fcS f j).2 (Pol.gd (fcS f j).1 (fcS f j).2))
noncomputable def fcO (f:Pol (Zp p)) (j:Nat):Pol (Zp p):=Pol.qo (fcS f j).1 (fcS f (j+1)).1
noncomputable def fcL (f:Pol (Zp p)) (j i:Nat):List (Pol (Zp p)):=spC (max i 1) ((bdC (fcO f j)).2 i)
noncomputable def fcA (f : Pol (Zp p)) (t : Nat) : Nat → List (Pol (Zp p) × Nat)
 | 0=>[]
 | j+1=>fcA f t j++(ccl (fcL f j) (bdC (fcO f j)).1).map fun P=>(P,t*(j+1))
noncomputable def fcE (f:Pol (Zp p)) (t j i x:Nat):List (Pol (Zp p) × Nat):=fcA f t j++(ccl (fcL f j) i++(fcL f j i).take x).map fun P=>(P,t*(j+1))
theorem take_next {α:Type} (l:List α) (d:α) {x:Nat} (h:x<l.length):l.take (x+1)=l.take x++[l.getD x d]:=by
 rw[List.take_add_one,List.getD_eq_getElem?_getD,List.getElem?_eq_getElem h]
 rfl
theorem fcE_1 (f:Pol (Zp p)) (t j i x:Nat) (h:x<(fcL f j i).length):fcE f t j i (x+1)=fcE f t j i x++[((fcL f j i).getD x 0,t*(j+1))]:=by
 unfold fcE
 rw[take_next _ 0 h]
 simp
theorem fcE_2 (f:Pol (Zp p)) (t j i:Nat):fcE f t j (i+1) 0=fcE f t j i (fcL f j i).length:=by
 show fcA f t j++(ccl (fcL f j) i++fcL f j i++(fcL f j (i+1)).take 0).map _=fcA f t j++(ccl (fcL f j) i++(fcL f j i).take (fcL f j i).length).map _
 rw[List.take_length,List.take_zero,List.append_nil]
theorem fcE_3 (f:Pol (Zp p)) (t j:Nat):fcE f t (j+1) 0 0=fcE f t j (bdC (fcO f j)).1 0:=by
 show fcA f t j++(ccl (fcL f j) (bdC (fcO f j)).1).map (fun P=>(P,t*(j+1)))++([]++(fcL f (j+1) 0).take 0).map _=fcA f t j++(ccl (fcL f j) (bdC (fcO f j)).1++(fcL f j (bdC (fcO f j)).1).take 0).map _
 rw[List.take_zero,List.take_zero,List.append_nil,List.append_nil,List.map_nil,List.append_nil]
theorem ccl_len {s : Nat → List (Pol (Zp p))} {n : Nat} : ∀ {i : Nat}, (∀ k, k < i → (s k).length ≤ n) → (ccl s i).length ≤ i * n
 | 0,_=>Nat.zero_le _
 | i+1,h=>by
  have h1:=ccl_len (s:=s) (i:=i) fun k hk=>h k (by omega)
  have h2:=h i (by omega)
  show(ccl s i++s i).length≤(i+1)*n
  rw[List.length_append,Nat.succ_mul]
  omega
structure FcI (f : Pol (Zp p)) (t j : Nat) : Prop where
 i:SqI f (j+1) (fcS f j).1 (fcS f j).2
 ls:(fcS f j).1.len≤f.len
 lr:(fcS f j).2.len<f.len
 q:FacQ f t (j+1) (fcA f t j)
theorem fc_step (hm:Fp.md p) {f:Pol (Zp p)} {t j:Nat} (_:f≠0) (lf:f.len≤65) (h:FcI f t j):FcI f t (j+1)/\FnOK Tryz.prog false 103 [.c (.int .i64 p),pl (fcS f j).1,pl (fcS f j).2] (pl (fcS f (j+1)).1)/\FnOK Tryz.prog false 104 [.c (.int .i64 p),pl (fcS f j).1,pl (fcS f (j+1)).1] (.t2 (pl (fcO f j)) (pl (0:Pol (Zp p))))/\FnOK Tryz.prog false 104 [.c (.int .i64 p),pl (fcS f j).2,pl (fcS f (j+1)).1] (.t2 (pl (fcS f (j+1)).2) (pl (0:Pol (Zp p))))/\BdP (fcO f j) (bdC (fcO f j))/\(fcO f j).len≤f.len/\∀ i,i<(bdC (fcO f j)).1->SpP (max i 1) ((bdC (fcO f j)).2 i) (fcL f j i)/\(fcL f j i).length≤65:=by
 obtain⟨hi,hls,hlr,hq⟩:=h
 obtain⟨g1,k1⟩:=gd_P hm (a:=(fcS f j).1) (b:=(fcS f j).2) (by omega) (by omega) (.inl hi.s0)
 have g1:Gc (fcS f j).1 (fcS f j).2 (fcS f (j+1)).1:=g1
 have lm:=g1.da.len hi.s0
 have eo:(fcS f j).1=fcO f j*(fcS f (j+1)).1:=qo_dvs g1.ne g1.da
 have er:(fcS f j).2=(fcS f (j+1)).2*(fcS f (j+1)).1:=qo_dvs g1.ne g1.db
 obtain⟨n1,o0,ol,os,od,ov⟩:=hi.step g1 eo er
 have lo:=Pol.Dvs.len (show Pol.Dvs (fcO f j) (fcS f j).1 from⟨_,eo⟩) hi.s0
 have lr:=Pol.Dvs.len (show Pol.Dvs (fcS f (j+1)).2 (fcS f j).2 from⟨_,er⟩) hi.r0
 have b:=bdC_spec hm os o0 ol (by omega)
 have sp:∀ i,i<(bdC (fcO f j)).1->SpP (max i 1) ((bdC (fcO f j)).2 i) (fcL f j i)/\(fcL f j i).length≤65:=fun i hil=>by
  have e1:=b.1.eqd os hil
  have e2:=((b.1.ne i hil).2.2).len o0
  have e3:=b.2.2.1
  have:SpP (max i 1) ((bdC (fcO f j)).2 i) (fcL f j i):=spC_spec hm (by omega) (by omega) (by omega) e1
  exact⟨this,by have:=this.2.1;omega⟩
 refine⟨⟨n1,by omega,by omega,?_⟩,k1,qo_P hm (by omega) g1.ne (by omega) g1.da,qo_P hm (by omega) g1.ne (by omega) g1.db,b,by omega,sp⟩
 exact hq.step od ov (ccl_irl b.1 b.2.1 fun i hil=>(sp i hil).1.1)
theorem val_lt_len {P f:Pol (Zp p)} (hP:Pol.Irr P) (h0:f≠0):val P f<f.len:=by
 have h1:=((val_iff hP h0).2 (Nat.le_refl (val P f))).len h0
 rw[(len_pw_eq hP.ne _).1]at h1
 have:=hP.two
 have:val P f≤val P f*(P.len-1):=Nat.le_mul_of_pos_right _ (by omega)
 omega
theorem fac_P (hm : Fp.md p) : ∀ (k : Nat) {f : Pol (Zp p)} {t : Nat}, f.len ≤ k → f ≠ 0 → f.lead = 1 → f.len ≤ 65 → t * (f.len - 1) ≤ 64 → ∃ l, FacL f t l ∧ l.length + 1 ≤ f.len ∧ FnM Tryz.prog true 60 phB [.c (.int .i64 p), pl f, .c (.int .i64 t)] (.c (.gs 1 0)) phB [gb (fcB l)]
 | 0,f,t,hk,h0,_,_,_=>absurd (Pol.len_nil (a:=f) (by omega)) h0
 | k+1,f,t,hk,h0,h1,lf,ht=>by
  have hm1:=hm.1
  have hm2:=hm.2.1
  have hp0:=Pol.len_pos h0
  by_cases c:f.len≤1
  ·refine⟨[],⟨fun c hc=>absurd hc (by simp),fun P hP _ hd=>?_,List.Pairwise.nil⟩,by show 0+1≤f.len;omega,fac_nil c⟩
   have:=hd.len h0
   have:=hP.two
   omega
  have ht2:t≤64:=Nat.le_trans (Nat.le_mul_of_pos_right t (by omega)) ht
  have fin:∀ l,FacL f t l->l.length+1≤f.len:=fun l h=>fac_len h0 (fun c hc=>⟨(h.all c hc).1,(h.all c hc).2.1,(h.all c hc).2.2.1⟩) h.nd
  have kd:=(deriv_P hm (a:=f) (by omega)).weak (r:=true)
  by_cases hd:Pol.dv f=0
  ·obtain⟨r0,rl⟩:=rtp_lead h0 h1 hd
   obtain⟨n,e1,e2⟩:=rtp_len hd h0
   have h2:=two_le (p:=p)
   have e3:n+1≤p.toNat*n:=by
    have h3:=Nat.mul_le_mul_right n h2
    have h4:n≠0:=fun e=>by rw[e,Nat.mul_zero]at e1;omega
    omega
   have e4:t*p.toNat*((rtp f).len-1)≤64:=by
    have:t*p.toNat*((rtp f).len-1)=t*(f.len-1):=by
     rw[Nat.mul_assoc,e1,e2,Nat.add_sub_cancel,Nat.add_sub_cancel]
    omega
   obtain⟨l,l1,l2,l3⟩:=fac_P hm k (f:=rtp f) (t:=t*p.toNat) (by omega) r0 rl (by omega) e4
   have l4:=l1.root h0 hd
   have eu:(t:Int)*p=((t*p.toNat:Nat):Int):=by
    rw[Int.natCast_mul,show((p.toNat:Nat):Int)=p by omega]
   have hu:t*p.toNat≤64:=by
    refine Nat.le_trans (Nat.le_mul_of_pos_right _ ?_) e4
    have:n≠0:=fun e=>by rw[e,Nat.mul_zero]at e1;omega
    omega
   exact⟨l,l4,fin l l4,fac_root (by omega) (by rw[hd,Pol.len_zero]) eu hu kd (root_P hm (by omega) hd h0).weak (by rw[eu];exact l3)⟩
  ·have ld:=dv_len f
   obtain⟨g1,k1⟩:=gd_P hm (a:=f) (b:=Pol.dv f) (by omega) (by omega) (.inl h0)
   have ef:=qo_dvs g1.ne g1.da
   have lr:=g1.db.len hd
   have i0:FcI f t 0:=⟨SqI.start h0 h1 hd g1 ef,Pol.Dvs.len (show Pol.Dvs (fcS f 0).1 f from⟨_,ef⟩) h0,by show(Pol.gd f (Pol.dv f)).len<f.len;omega,FacQ.start⟩
   have inv:∀ j,FcI f t j:=fun j=>by
    induction j with
    | zero=>exact i0
    | succ j ih=>exact(fc_step hm h0 lf ih).1
   have stp:=fun j=>(fc_step hm h0 lf (inv j)).2
   obtain⟨E,hE,hmin⟩:=ex_least (Q:=fun j=>(fcS f j).1.len≤1) ⟨f.len,Nat.le_of_not_lt fun h=>by
    obtain⟨P,hP,hx⟩:=Pol.ex_irr (fcS f f.len).1.len (fcS f f.len).1 (Nat.le_refl _) (by omega)
    have h3:=(val_pos hP (inv f.len).i.s0).1 hx
    rw[(inv f.len).i.vs P hP]at h3
    have h4:=val_lt_len hP h0
    split at h3
    ·omega
    ·omega⟩
   have kE:E≤f.len:=Nat.le_of_not_lt fun h=>hmin f.len h (Nat.le_of_not_lt fun h=>by
    obtain⟨P,hP,hx⟩:=Pol.ex_irr (fcS f f.len).1.len (fcS f f.len).1 (Nat.le_refl _) (by omega)
    have h3:=(val_pos hP (inv f.len).i.s0).1 hx
    rw[(inv f.len).i.vs P hP]at h3
    have h4:=val_lt_len hP h0
    split at h3
    ·omega
    ·omega)
   have la:∀ j,(fcA f t j).length+1≤f.len:=fun j=>fac_len h0 (fun c hc=>⟨((inv j).q.all c hc).1,((inv j).q.all c hc).2.1,((inv j).q.all c hc).2.2.1⟩) (inv j).q.nd
   have e0:∀ j,fcE f t j 0 0=fcA f t j:=fun j=>by
    show fcA f t j++([]++(fcL f j 0).take 0).map _=_
    rw[List.take_zero,List.append_nil,List.map_nil,List.append_nil]
   have W:FcW (p:=p) t E (fun j=>(fcS f j).1) (fun j=>(fcS f j).2) (fcO f) (fun j=>(bdC (fcO f j)).1) (fun j=>(bdC (fcO f j)).2) (fcL f) (fcE f t) :=
    ⟨fun j _=>(stp j).1.weak,fun j _=>(stp j).2.1.weak,fun j _=>(stp j).2.2.2.1.2.2.2,fun j _ i hi=>by
     have:=((stp j).2.2.2.2.2 i hi).1.2.2
     rwa [show((max i 1:Nat):Int)=if(1:Int) > (i:Int)then 1 else(i:Int)by split <;> omega]at this,fun j _=>(stp j).2.2.1.weak,fun j hj=>Nat.lt_of_not_le (hmin j hj),hE,fun j=>Nat.le_trans (inv j).ls lf,by omega,ht2,fun j _=>by have:=(stp j).2.2.2.1.2.2.1;have:=(stp j).2.2.2.2.1;omega,fun j _ i hi=>by have:=((stp j).2.2.2.2.2 i hi).2;omega,e0 0,fun j i x hx=>fcE_1 f t j i x hx,fun j i=>fcE_2 f t j i,fun j=>fcE_3 f t j,fun j _ i hi x hx=>by
      have h3:=la j
      have h4:=((stp j).2.2.2.2.2 i hi).2
      have h5:=ccl_len (s:=fcL f j) (n:=65) (i:=i) fun k hk=>((stp j).2.2.2.2.2 k (by omega)).2
      have h6:=(stp j).2.2.2.1.2.2.1
      have h7:=(stp j).2.2.2.2.1
      have h8:i*65≤66*65:=Nat.mul_le_mul_right 65 (by omega)
      show(fcA f t j++(ccl (fcL f j) i++(fcL f j i).take x).map _).length≤5000000
      rw[List.length_append,List.length_map,List.length_append,List.length_take]
      omega,by rw[e0];have:=la E;omega⟩
   have rE:=(inv E).i.fin hE
   obtain⟨l,l1,l2,l3⟩:=fac_P hm k (f:=(fcS f E).2) (t:=t) (by have:=(inv E).lr;omega) (inv E).i.r0 (inv E).i.rl (by have:=(inv E).lr;omega) (Nat.le_trans (Nat.mul_le_mul_left t (by have:=(inv E).lr;omega)) ht)
   have l4:=(inv E).q.fin h0 (inv E).i.r0 rE l1
   refine⟨fcA f t E++l,l4,fin _ l4,?_⟩
   rw[← e0 E]
   exact fac_walk W (by omega) (Pol.len_pos hd) (by have:=(inv E).lr;omega) kd k1.weak (qo_P hm (by omega) g1.ne (by have:=g1.da.len h0;omega) g1.da).weak (l3.shut (fun i j _ hj=>fcs_clos l (i:=i) hj) rfl)
end
end Go.Proofs.YtibaocbpeaejkaaGreat
/- The shelf's contract of slices.SortFunc, laid over the program. -/
namespace Go.Proofs.YtibaocbpeaejkaaGreat
open Go.Shelf
def sortF_ren:Go.Shelf.Ren:=⟨fun | 6=>62 | 15=>81 | 14=>109 | 28=>119 | 29=>120 | 20=>135 | 21=>136 | 22=>137 | 23=>138 | 24=>139 | 25=>140 | 26=>141 | 27=>142 | 46=>175 | 47=>176 | 48=>177 | 49=>178 | 50=>179 | 57=>188 | n=>n,fun | 22=>49 | 24=>55 | 25=>93 | 3=>3 | 39=>74 | 0=>0 | 53=>73 | 55=>71 | 4=>4 | 46=>151 | 45=>150 | 50=>96 | 5=>5 | 9=>9 | 66=>176 | 70=>180 | 76=>192 | 77=>47 | n=>n,fun | n=>n⟩
theorem sortF : Go.Proofs.SlLaysF0.n6 Tryz.prog sortF_ren := {
 mixed:=by kernel_rfl
 f6:=⟨Tryz.f62.name,by decide,Tryz.func62.trans (congrArg some (by kernel_rfl))⟩
 f14:=⟨Tryz.f109.name,by decide,Tryz.func109.trans (congrArg some (by kernel_rfl))⟩
 f15:=Tryz.func81.trans (congrArg some (by kernel_rfl))
 f20:=⟨Tryz.f135.name,by decide,Tryz.func135.trans (congrArg some (by kernel_rfl))⟩
 f21:=⟨Tryz.f136.name,by decide,Tryz.func136.trans (congrArg some (by kernel_rfl))⟩
 f22:=⟨Tryz.f137.name,by decide,Tryz.func137.trans (congrArg some (by kernel_rfl))⟩
 f23:=⟨Tryz.f138.name,by decide,Tryz.func138.trans (congrArg some (by kernel_rfl))⟩
 f24:=⟨Tryz.f139.name,by decide,Tryz.func139.trans (congrArg some (by kernel_rfl))⟩
 f25:=⟨Tryz.f140.name,by decide,Tryz.func140.trans (congrArg some (by kernel_rfl))⟩
 f26:=⟨Tryz.f141.name,by decide,Tryz.func141.trans (congrArg some (by kernel_rfl))⟩
 f27:=⟨Tryz.f142.name,by decide,Tryz.func142.trans (congrArg some (by kernel_rfl))⟩
 f28:=Tryz.func119.trans (congrArg some (by kernel_rfl))
 f29:=Tryz.func120.trans (congrArg some (by kernel_rfl))
 f46:=⟨Tryz.f175.name,by decide,Tryz.func175.trans (congrArg some (by kernel_rfl))⟩
 f47:=Tryz.func176.trans (congrArg some (by kernel_rfl))
 f48:=Tryz.func177.trans (congrArg some (by kernel_rfl))
 f49:=⟨Tryz.f178.name,by decide,Tryz.func178.trans (congrArg some (by kernel_rfl))⟩
 f50:=⟨Tryz.f179.name,by decide,Tryz.func179.trans (congrArg some (by kernel_rfl))⟩
 f57:=⟨Tryz.f188.name,by decide,Tryz.func188.trans (congrArg some (by kernel_rfl))⟩
 t0:=Tryz.underlying0
 a0:=Tryz.isAgg0
 z0:=Tryz.sizeOf0
 v0:=Tryz.zeroValue0
 t3:=Tryz.underlying3
 a3:=Tryz.isAgg3
 z3:=Tryz.sizeOf3
 v3:=Tryz.zeroValue3
 t4:=Tryz.underlying4
 a4:=Tryz.isAgg4
 z4:=Tryz.sizeOf4
 v4:=Tryz.zeroValue4
 t5:=Tryz.underlying5
 a5:=Tryz.isAgg5
 z5:=Tryz.sizeOf5
 v5:=Tryz.zeroValue5
 t9:=Tryz.underlying9
 a9:=Tryz.isAgg9
 z9:=Tryz.sizeOf9
 v9:=Tryz.zeroValue9
 t22:=Tryz.underlying49
 a22:=Tryz.isAgg49
 z22:=Tryz.sizeOf49
 v22:=Tryz.zeroValue49
 t25:=Tryz.underlying93
 a25:=Tryz.isAgg93
 z25:=Tryz.sizeOf93
 v25:=Tryz.zeroValue93
 t39:=Tryz.underlying74
 a39:=Tryz.isAgg74
 z39:=Tryz.sizeOf74
 v39:=Tryz.zeroValue74
 t45:=Tryz.underlying150
 a45:=Tryz.isAgg150
 z45:=Tryz.sizeOf150
 v45:=Tryz.zeroValue150
 t46:=Tryz.underlying151
 a46:=Tryz.isAgg151
 z46:=Tryz.sizeOf151
 v46:=Tryz.zeroValue151
 t50:=Tryz.underlying96
 a50:=Tryz.isAgg96
 z50:=Tryz.sizeOf96
 v50:=Tryz.zeroValue96
 t53:=Tryz.underlying73
 a53:=Tryz.isAgg73
 z53:=Tryz.sizeOf73
 v53:=Tryz.zeroValue73
 t55:=Tryz.underlying71
 a55:=Tryz.isAgg71
 z55:=Tryz.sizeOf71
 v55:=Tryz.zeroValue71
 t66:=Tryz.underlying176
 a66:=Tryz.isAgg176
 z66:=Tryz.sizeOf176
 v66:=Tryz.zeroValue176
 t70:=Tryz.underlying180
 a70:=Tryz.isAgg180
 z70:=Tryz.sizeOf180
 v70:=Tryz.zeroValue180
 t76:=Tryz.underlying192
 a76:=Tryz.isAgg192
 z76:=Tryz.sizeOf192
 v76:=Tryz.zeroValue192
 t77:=Tryz.underlying47
 a77:=Tryz.isAgg47
 z77:=Tryz.sizeOf47
 v77:=Tryz.zeroValue47 }
end Go.Proofs.YtibaocbpeaejkaaGreat
/- The program's fpoly.compare, with the world that it leaves. -/
namespace Go.Proofs.YtibaocbpeaejkaaGreat
open Go.RowKit
attribute [local go_sem] Oper.semAt_some
theorem isNaN_walk (x:Int) (w:World):Calls Tryz.prog 143 #[.int .i64 x] w fun e w'=>e = .returned (.bool false)/\w'=w:=by
 go_enter Tryz.func143,Tryz.ntmps143
 go_wp2
 go_ret
 exact⟨by simp,rfl⟩
theorem cmpInt_walk (x y:Int) (w:World):Calls Tryz.prog 110 #[.int .i64 x,.int .i64 y] w fun e w'=>e = .returned (.int .i64 (Lib.compareInt x y))/\w'=w:=by
 rcases Int.lt_trichotomy x y with h | h | h
 ·have hr:Lib.compareInt x y = -1:=by unfold Lib.compareInt;rw[if_pos h]
  rw[hr]
  have h1:decide (x<y)=true:=decide_eq_true h
  go_enter Tryz.func110,Tryz.ntmps110
  go_wp2_with (go_at_call 143;refine(isNaN_walk _ _).mono ?_;rintro e w' ⟨rfl,rfl⟩)
  go_ret
  exact⟨rfl,rfl⟩
 ·subst h
  have hr:Lib.compareInt x x=0:=by unfold Lib.compareInt;rw[if_neg (by omega),if_neg (by omega)]
  rw[hr]
  have h1:decide (x<x)=false:=decide_eq_false (by omega)
  go_enter Tryz.func110,Tryz.ntmps110
  go_wp2_with (go_at_call 143;refine(isNaN_walk _ _).mono ?_;rintro e w' ⟨rfl,rfl⟩)
  go_ret
  exact⟨rfl,rfl⟩
 ·have hr:Lib.compareInt x y=1:=by unfold Lib.compareInt;rw[if_neg (by omega),if_pos h]
  rw[hr]
  have h1:decide (x<y)=false:=decide_eq_false (by omega)
  have h2:decide (y<x)=true:=decide_eq_true h
  go_enter Tryz.func110,Tryz.ntmps110
  go_wp2_with (go_at_call 143;refine(isNaN_walk _ _).mono ?_;rintro e w' ⟨rfl,rfl⟩)
  go_ret
  exact⟨rfl,rfl⟩
def cmpF (F G : Nat → Int) : Nat → Int
 | 0=>0
 | k+1=>if F k=G k then cmpF F G k else Lib.compareInt (F k) (G k)
def cmpV (n m:Nat) (F G:Nat->Int):Int:=if n=m then cmpF F G n else Lib.compareInt n m
def InM (w:World) (A:Option Addr) (n:Nat) (F:Nat->Int):Prop:=0<n->∃ b o,A=some ⟨b,o,none⟩/\∀ i,i<n->w.cell? ⟨b,o+i,none⟩=some (.int .i64 (F i))
set_option maxHeartbeats 4000000 in
set_option maxRecDepth 100000 in
theorem compare_walk (n m c c' : Nat) (F G : Nat → Int) (A A' : Option Addr) (w : World) (hn : n ≤ 4096) (hm : m ≤ 4096) (hA : InM w A n F) (hB : InM w A' m G) :
  Calls Tryz.prog 64 #[.slice A n c,.slice A' m c'] w fun e w'=>e = .returned (.int .i64 (cmpV n m F G))/\∃ q,w'=w.drewN q:=by
 by_cases hne:n=m
 ·subst hne
  have hr:cmpV n n F G=cmpF F G n:=if_pos rfl
  rw[hr]
  go_enter Tryz.func64,Tryz.ntmps64
  go_wp2
  go_loopw [5] (fun v wr=>∃ k q,k≤n/\v = .int .i64 ((k:Int)-1)/\Hid (cmpF F G n=cmpF F G k)/\wr=w.drewN q) (fun v _=>(intOf v+1).toNat)
  case atStart=>exact⟨n,0,Nat.le_refl _,rfl,rfl,rfl⟩
  case round =>
   obtain⟨k,q,hk,rfl,HI,rfl⟩:=hrel
   cases k with
   | succ j =>
    obtain⟨b1,o1,rfl,hc1⟩:=hA (by omega)
    obtain⟨b2,o2,rfl,hc2⟩:=hB (by omega)
    have hc1:=hc1 j (by omega)
    have hc2:=hc2 j (by omega)
    have hi0:(0:Int)≤j:=by omega
    have hi1:(j:Int)<n:=by omega
    have ej:((j+1:Nat):Int)-1=j:=by omega
    rw[ej]
    obtain⟨x,hx⟩:∃ x,x=F j:=⟨_,rfl⟩
    obtain⟨y,hy⟩:∃ y,y=G j:=⟨_,rfl⟩
    rw[← hx]at hc1
    rw[← hy]at hc2
    by_cases hxy:x=y
    ·have hv:cmpF F G n=cmpF F G j:=by rw[HI.out];show(if F j=G j then _ else _)=_;rw[if_pos (by rw[← hx,← hy];exact hxy)]
     have HV:=Lib.hid hv
     clear hv hx hy HI
     have hb1:(x != y)=false:=by rw[bne_eq_false_iff_eq];exact hxy
     clear hxy
     go_wp2
     go_quiet (fail)
     go_wp2
     go_roundw
     case rel=>exact⟨j,_,by omega,rfl,HV.out,rfl⟩
     case measure=>simp[intOf] <;> omega
    ·have hv:cmpF F G n=Lib.compareInt x y:=by rw[HI.out];show(if F j=G j then _ else _)=_;rw[if_neg (by rw[← hx,← hy];exact hxy),hx,hy]
     have HV:=Lib.hid hv
     clear hv hx hy HI
     have hb1:(x != y)=true:=by rw[bne_iff_ne];exact hxy
     clear hxy
     go_wp2
     go_quiet (fail)
     go_wp2
     go_quiet (first | (go_at_call 110;exact(cmpInt_walk _ _ _).mono fun _ _ ⟨he,hm⟩=>⟨he,_,hm⟩))
     go_wp2
     go_ret
     exact⟨ret_int HV.out.symm,by simp only[World.drewN_drewN];exact⟨_,rfl⟩⟩
   | zero =>
    have HV:=Lib.hid (show cmpF F G n=0 from HI.out)
    clear HI
    go_wp2
    go_ret
    exact⟨ret_int HV.out.symm,q,rfl⟩
 ·have hr:cmpV n m F G=Lib.compareInt n m:=if_neg hne
  rw[hr]
  have hb:((n:Int) != (m:Int))=true:=by rw[bne_iff_ne];omega
  clear hA hB
  go_enter Tryz.func64,Tryz.ntmps64
  go_wp2_with (go_at_call 110;refine(cmpInt_walk _ _ _).mono ?_;rintro e w' ⟨rfl,rfl⟩)
  go_ret
  exact⟨rfl,0,rfl⟩
end Go.Proofs.YtibaocbpeaejkaaGreat
/- slices.SortFunc at lists of factors. -/
namespace Go.Proofs.YtibaocbpeaejkaaGreat
open Go.RowKit Go.Sort
attribute [local go_sem] Oper.semAt_some
theorem cI_lt {x y:Int}:Lib.compareInt x y<0↔x<y:=by unfold Lib.compareInt;split <;> (try split) <;> omega
theorem cI_le {x y:Int}:Lib.compareInt x y≤0↔x≤y:=by unfold Lib.compareInt;split <;> (try split) <;> omega
theorem cI_neg (x y:Int):Lib.compareInt y x = -Lib.compareInt x y:=by unfold Lib.compareInt;split <;> (try split) <;> (try split) <;> omega
theorem cI_zero {x y:Int}:Lib.compareInt x y=0↔x=y:=by unfold Lib.compareInt;split <;> (try split) <;> omega
theorem cmpF_tr (F G H : Nat → Int) : ∀ n, cmpF F G n ≤ 0 → cmpF G H n ≤ 0 → cmpF F H n ≤ 0 ∧ (cmpF F G n < 0 ∨ cmpF G H n < 0 → cmpF F H n < 0)
 | 0,_,_=>⟨Int.le_refl 0,fun h=>by rcases h with h | h <;> exact absurd h (Int.lt_irrefl 0)⟩
 | k+1,h1,h2=>by
  unfold cmpF at *
  by_cases a:F k=G k
  ·rw[if_pos a]at h1 ⊢
   by_cases b:G k=H k
   ·rw[if_pos b]at h2 ⊢
    rw[if_pos (a.trans b)]
    exact cmpF_tr F G H k h1 h2
   ·rw[if_neg b]at h2 ⊢
    have h3:=cI_le.1 h2
    rw[if_neg (by omega)]
    exact⟨cI_le.2 (by omega),fun _=>cI_lt.2 (by omega)⟩
  ·rw[if_neg a]at h1 ⊢
   have h3:=cI_le.1 h1
   by_cases b:G k=H k
   ·rw[if_pos b]at h2 ⊢
    rw[if_neg (by omega)]
    exact⟨cI_le.2 (by omega),fun _=>cI_lt.2 (by omega)⟩
   ·rw[if_neg b]at h2 ⊢
    have h4:=cI_le.1 h2
    rw[if_neg (by omega)]
    exact⟨cI_le.2 (by omega),fun _=>cI_lt.2 (by omega)⟩
theorem cmpF_neg (F G : Nat → Int) : ∀ n, cmpF G F n = -cmpF F G n
 | 0=>rfl
 | k+1=>by
  unfold cmpF
  by_cases a:F k=G k
  ·rw[if_pos a,if_pos a.symm];exact cmpF_neg F G k
  ·rw[if_neg a,if_neg (fun h=>a h.symm)];exact cI_neg _ _
theorem cmpF_zero {F G : Nat → Int} : ∀ n, cmpF F G n = 0 → ∀ i, i < n → F i = G i
 | 0,_,i,hi=>absurd hi (Nat.not_lt_zero i)
 | k+1,h,i,hi=>by
  unfold cmpF at h
  by_cases a:F k=G k
  ·rw[if_pos a]at h
   rcases Nat.lt_or_ge i k with h1 | h1
   ·exact cmpF_zero k h i h1
   ·obtain rfl:i=k:=by omega
    exact a
  ·rw[if_neg a]at h
   exact absurd (cI_zero.1 h) a
theorem cmpV_tr {n m q:Nat} {F G H:Nat->Int} (h1:cmpV n m F G≤0) (h2:cmpV m q G H≤0):cmpV n q F H≤0/\(cmpV n m F G<0∨cmpV m q G H<0->cmpV n q F H<0):=by
 unfold cmpV at *
 by_cases a:n=m
 ·subst a
  rw[if_pos rfl]at h1 ⊢
  by_cases b:n=q
  ·subst b
   rw[if_pos rfl]at h2 ⊢
   rw[if_pos rfl]
   exact cmpF_tr F G H n h1 h2
  ·rw[if_neg b]at h2 ⊢
   have h3:=cI_le.1 h2
   rw[if_neg b]
   exact⟨h2,fun _=>cI_lt.2 (by omega)⟩
 ·rw[if_neg a]at h1 ⊢
  have h3:=cI_le.1 h1
  by_cases b:m=q
  ·subst b
   rw[if_neg a]
   exact⟨h1,fun _=>cI_lt.2 (by omega)⟩
  ·rw[if_neg b]at h2 ⊢
   have h4:=cI_le.1 h2
   rw[if_neg (by omega)]
   exact⟨cI_le.2 (by omega),fun _=>cI_lt.2 (by omega)⟩
theorem cmpV_neg (n m:Nat) (F G:Nat->Int):cmpV m n G F = -cmpV n m F G:=by
 unfold cmpV
 by_cases a:n=m
 ·subst a;rw[if_pos rfl,if_pos rfl];exact cmpF_neg F G n
 ·rw[if_neg a,if_neg (fun h=>a h.symm)];exact cI_neg _ _
theorem cell_lt {w:World} {a:Addr} {v:Value} (h:w.cell? a=some v):a.block<w.heap.size:=by
 rcases Nat.lt_or_ge a.block w.heap.size with h1 | h1
 ·exact h1
 ·unfold World.cell? at h
  rw[Array.getElem?_eq_none h1]at h
  cases h
section
variable {p:Int} [hp:Prm p]
noncomputable def cmpP (a b:Pol (Zp p)):Int:=cmpV a.len b.len (fun i=>(a.f i).v) (fun i=>(b.f i).v)
theorem cmpP_zero {a b:Pol (Zp p)} (h:cmpP a b=0):a=b:=by
 unfold cmpP cmpV at h
 by_cases e:a.len=b.len
 ·rw[if_pos e]at h
  refine Pol.ext fun i=>?_
  rcases Nat.lt_or_ge i a.len with h1 | h1
  ·exact Zp.ext (cmpF_zero a.len h i h1)
  ·rw[Pol.len_out a i h1,Pol.len_out b i (by omega)]
 ·rw[if_neg e]at h
  have:=cI_zero.1 h
  omega
theorem cmpP_swo {ι : Type} (q : ι → Pol (Zp p)) : SWO (ltOf fun x y => cmpP (q x) (q y)) where
 irrefl x:=by
  have h:cmpP (q x) (q x) = -cmpP (q x) (q x):=cmpV_neg _ _ _ _
  unfold ltOf
  exact decide_eq_false (show ¬ cmpP (q x) (q x)<0 by omega)
 trans x y z h1 h2:=by
  unfold ltOf at *
  have h1:=of_decide_eq_true h1
  have h2:=of_decide_eq_true h2
  exact decide_eq_true ((cmpV_tr (Int.le_of_lt h1) (Int.le_of_lt h2)).2 (.inl h1))
 ntrans x y z h1 h2:=by
  unfold ltOf at *
  have h1:¬ cmpP (q x) (q y)<0:=of_decide_eq_false h1
  have h2:¬ cmpP (q y) (q z)<0:=of_decide_eq_false h2
  have n1:cmpP (q y) (q x) = -cmpP (q x) (q y):=cmpV_neg _ _ _ _
  have n2:cmpP (q z) (q y) = -cmpP (q y) (q z):=cmpV_neg _ _ _ _
  have n3:cmpP (q z) (q x) = -cmpP (q x) (q z):=cmpV_neg _ _ _ _
  have h3:cmpP (q z) (q x)≤0:=(cmpV_tr (show cmpP (q z) (q y)≤0 by omega) (show cmpP (q y) (q x)≤0 by omega)).1
  exact decide_eq_false (show ¬ cmpP (q x) (q z)<0 by omega)
abbrev Ix (n:Nat):={i:Nat // i<n}
theorem factor_walk (n m c c' : Nat) (F G : Nat → Int) (A A' : Option Addr) (x y : Value) (w : World) (hn : n ≤ 4096) (hm : m ≤ 4096) (hA : InM w A n F) (hB : InM w A' m G) :
  Calls Tryz.prog 63 #[.agg #[.slice A n c,x],.agg #[.slice A' m c',y]] w fun e w'=>e = .returned (.int .i64 (cmpV n m F G))/\∃ q os,w'=grow (w.drewN q) os:=by
 have key:∀ os:Array Obj,Calls Tryz.prog 64 #[.slice A n c,.slice A' m c'] (grow w os) fun e w'=>e = .returned (.int .i64 (cmpV n m F G))/\∃ q,w'=(grow w os).drewN q:=fun os=>by
  refine compare_walk n m c c' F G A A' (grow w os) hn hm ?_ ?_
  ·intro h0
   obtain⟨b,o,e,h⟩:=hA h0
   refine⟨b,o,e,fun i hi=>?_⟩
   have h1:=h i hi
   rw[cell?_grow]
   ·exact h1
   ·exact cell_lt h1
  ·intro h0
   obtain⟨b,o,e,h⟩:=hB h0
   refine⟨b,o,e,fun i hi=>?_⟩
   have h1:=h i hi
   rw[cell?_grow]
   ·exact h1
   ·exact cell_lt h1
 generalize cmpV n m F G=r at *
 clear hA hB
 have key2:∀(o1 o2:Obj),Calls Tryz.prog 64 #[.slice A n c,.slice A' m c'] ((w.alloc o1).alloc o2) fun e w'=>e = .returned (.int .i64 r)/\∃ q os,w'=grow (w.drewN q) os:=fun o1 o2=>by
  have:=key #[o1,o2]
  rw[alloc_eq_grow,alloc_eq_grow,grow_grow]
  exact this.mono fun _ _ ⟨he,q,hq⟩=>⟨he,q,_,hq⟩
 clear key
 go_enter Tryz.func63,Tryz.ntmps63
 go_wp2_with (go_at_call 64;refine(key2 _ _).mono ?_;rintro e w' ⟨rfl,hw⟩)
 go_ret
 exact⟨rfl,hw⟩
end
end Go.Proofs.YtibaocbpeaejkaaGreat
/- slices.SortFunc at lists of factors: the contract. -/
namespace Go.Proofs.YtibaocbpeaejkaaGreat
open Go.RowKit Go.Sort
section
variable {p:Int} [hp:Prm p]
theorem get!_some {α:Type} [Inhabited α] {a:Array α} {i:Nat} {x:α} (h:a[i]? = some x):a[i]! = x:=by
 rw[getElem!_def,h]
noncomputable def srtA (l:List (Pol (Zp p) × Nat)) (h0:0<l.length):Array (Ix l.length) :=
 letI:Inhabited (Ix l.length):=⟨⟨0,h0⟩⟩
 pdq (ltOf fun x y:Ix l.length=>cmpP (l.getD x.1 (0,0)).1 (l.getD y.1 (0,0)).1) (Array.ofFn fun i:Fin l.length=>(⟨i.1,i.2⟩:Ix l.length)) 0 (Array.ofFn fun i:Fin l.length=>(⟨i.1,i.2⟩:Ix l.length)).size (Lib.bitLen (Array.ofFn fun i:Fin l.length=>(⟨i.1,i.2⟩:Ix l.length)).size) true true
noncomputable def srtL (l:List (Pol (Zp p) × Nat)) (h0:0<l.length):List (Pol (Zp p) × Nat):=(srtA l h0).toList.map fun x=>l.getD x.1 (0,0)
theorem srtA_size (l:List (Pol (Zp p) × Nat)) (h0:0<l.length):(srtA l h0).size=l.length:=by
 letI:Inhabited (Ix l.length):=⟨⟨0,h0⟩⟩
 have h:=(pdq_sorts (ltOf fun x y:Ix l.length=>cmpP (l.getD x.1 (0,0)).1 (l.getD y.1 (0,0)).1) (cmpP_swo fun x:Ix l.length=>(l.getD x.1 (0,0)).1) (Array.ofFn fun i:Fin l.length=>(⟨i.1,i.2⟩:Ix l.length)) 0 (Array.ofFn fun i:Fin l.length=>(⟨i.1,i.2⟩:Ix l.length)).size (Lib.bitLen (Array.ofFn fun i:Fin l.length=>(⟨i.1,i.2⟩:Ix l.length)).size) true true (Nat.zero_le _) (Nat.le_refl _) (Or.inl rfl)).1.1
 have e:(Array.ofFn fun i:Fin l.length=>(⟨i.1,i.2⟩:Ix l.length)).size=l.length:=Array.size_ofFn
 exact h.trans e
theorem srtL_len (l:List (Pol (Zp p) × Nat)) (h0:0<l.length):(srtL l h0).length=l.length:=by
 unfold srtL
 rw[List.length_map,Array.length_toList,srtA_size]
theorem srtL_perm (l:List (Pol (Zp p) × Nat)) (h0:0<l.length):(srtL l h0).Perm l:=by
 letI:Inhabited (Ix l.length):=⟨⟨0,h0⟩⟩
 have h:=(pdq_sorts (ltOf fun x y:Ix l.length=>cmpP (l.getD x.1 (0,0)).1 (l.getD y.1 (0,0)).1) (cmpP_swo fun x:Ix l.length=>(l.getD x.1 (0,0)).1) (Array.ofFn fun i:Fin l.length=>(⟨i.1,i.2⟩:Ix l.length)) 0 (Array.ofFn fun i:Fin l.length=>(⟨i.1,i.2⟩:Ix l.length)).size (Lib.bitLen (Array.ofFn fun i:Fin l.length=>(⟨i.1,i.2⟩:Ix l.length)).size) true true (Nat.zero_le _) (Nat.le_refl _) (Or.inl rfl)).1
 obtain⟨h1,_,h2⟩:=h
 have h3:(srtA l h0).toList.Perm (Array.ofFn fun i:Fin l.length=>(⟨i.1,i.2⟩:Ix l.length)).toList:=by
  have e1:=srtA_size l h0
  have e2:(Array.ofFn fun i:Fin l.length=>(⟨i.1,i.2⟩:Ix l.length)).size=l.length:=Array.size_ofFn
  have a1:(srtA l h0).extract 0 (Array.ofFn fun i:Fin l.length=>(⟨i.1,i.2⟩:Ix l.length)).size=srtA l h0:=by rw[e2];exact Array.extract_eq_self_of_le (Nat.le_of_eq e1)
  have a2:(Array.ofFn fun i:Fin l.length=>(⟨i.1,i.2⟩:Ix l.length)).extract 0 (Array.ofFn fun i:Fin l.length=>(⟨i.1,i.2⟩:Ix l.length)).size=Array.ofFn fun i:Fin l.length=>(⟨i.1,i.2⟩:Ix l.length):=Array.extract_size
  rw[a2]at h2
  have h2':((srtA l h0).extract 0 (Array.ofFn fun i:Fin l.length=>(⟨i.1,i.2⟩:Ix l.length)).size).toList.Perm _:=h2
  rw[a1]at h2'
  exact h2'
 have h4:=h3.map fun x=>l.getD x.1 (0,0)
 have e:(Array.ofFn fun i:Fin l.length=>(⟨i.1,i.2⟩:Ix l.length)).toList.map (fun x=>l.getD x.1 (0,0))=l:=by
  refine List.ext_getElem (by simp) fun i h5 h6=>?_
  simp[List.getD_eq_getElem?_getD,h6]
 rw[e]at h4
 exact h4
theorem srtL_sorted (l:List (Pol (Zp p) × Nat)) (h0:0<l.length):(srtL l h0).Pairwise fun a b=>¬ cmpP b.1 a.1<0:=by
 letI:Inhabited (Ix l.length):=⟨⟨0,h0⟩⟩
 have h:=(pdq_sorts (ltOf fun x y:Ix l.length=>cmpP (l.getD x.1 (0,0)).1 (l.getD y.1 (0,0)).1) (cmpP_swo fun x:Ix l.length=>(l.getD x.1 (0,0)).1) (Array.ofFn fun i:Fin l.length=>(⟨i.1,i.2⟩:Ix l.length)) 0 (Array.ofFn fun i:Fin l.length=>(⟨i.1,i.2⟩:Ix l.length)).size (Lib.bitLen (Array.ofFn fun i:Fin l.length=>(⟨i.1,i.2⟩:Ix l.length)).size) true true (Nat.zero_le _) (Nat.le_refl _) (Or.inl rfl)).2
 have e1:=srtA_size l h0
 have e2:(Array.ofFn fun i:Fin l.length=>(⟨i.1,i.2⟩:Ix l.length)).size=l.length:=Array.size_ofFn
 unfold srtL
 rw[List.pairwise_map,List.pairwise_iff_getElem]
 intro i j hi hj hij
 rw[Array.length_toList]at hi hj
 have h1:=h i j (Nat.zero_le _) hij (by rw[e2,← e1];exact hj)
 have h1:ltOf (fun x y:Ix l.length=>cmpP (l.getD x.1 (0,0)).1 (l.getD y.1 (0,0)).1) (srtA l h0)[j]! (srtA l h0)[i]! = false:=h1
 rw[getElem!_pos (srtA l h0) j hj,getElem!_pos (srtA l h0) i hi]at h1
 have h2:=of_decide_eq_false h1
 simpa using h2
theorem srtL_get (l:List (Pol (Zp p) × Nat)) (h0:0<l.length) {i:Nat} (hi:i<l.length):∃ x:Ix l.length,(srtA l h0)[i]? = some x/\(srtL l h0).getD i (0,0)=l.getD x.1 (0,0):=by
 have hs:i<(srtA l h0).size:=by rw[srtA_size];exact hi
 refine⟨(srtA l h0)[i],Array.getElem?_eq_getElem hs,?_⟩
 unfold srtL
 rw[List.getD_eq_getElem?_getD,List.getElem?_map,Array.getElem?_toList,Array.getElem?_eq_getElem hs]
 rfl
def encC (cs:Array Value) (n:Nat) (x:Ix n):List Value:=[cs[x.1*2]!,cs[x.1*2+1]!]
set_option maxHeartbeats 4000000 in
theorem sort_m {l : List (Pol (Zp p) × Nat)} (h0 : 0 < l.length) (h1 : l.length ≤ 4096) (hl : ∀ c ∈ l, c.1.len ≤ 4096) {r : Bool} :
  FnM Tryz.prog r 62 (gb (fcB l)) [.c (.gs 0 0),.c (.fn 63)] (.c .any) (gb (fcB (srtL l h0))) []:=by
 letI:Inhabited (Ix l.length):=⟨⟨0,h0⟩⟩
 refine⟨by kernel_rfl,fun D w0 lc w vs hs hargs=>?_⟩
 match vs,hargs with
 | [v0,v1],⟨hv0,hv1,_⟩ =>
  obtain⟨lc',e1,_,hv0⟩:=hv0
  obtain rfl:lc=lc':=by cases e1;rfl
  have hat:=hs.at_ 0 lc (gb (fcB l)) rfl rfl (Nat.zero_le _)
  have hv0:v0=lc.v:=hv0 hat.1
  have hv1:v1 = .func (.func 63) #[] #[]:=hv1
  rcases hat.2 with⟨p1,_,_⟩ | ⟨b,cap,cs,p2,p3,p4,p5,p6,p7,p8,p9⟩
  ·have p1:l.length=0:=p1
   omega
  have p7:l.length≤cap:=p7
  have p6:cs.size=cap*2:=p6
  have p5:w.heap[b]? = some (.cells cs 55 (0,0)):=p5
  have hDb:Dof D [lc] [gb (fcB l)] b := .inr ⟨0,lc,_,rfl,rfl,rfl,p2⟩
  have hblk:b<w.heap.size:=heap_lt p5
  have cellb:∀ k,w.cell? ⟨b,k,none⟩=cs[k]? := fun k=>by simp only[World.cell?,p5];simp
  -- what a place holds
  have hcell:∀ i,i<l.length->∃(A:Option Addr) (c:Nat),cs[i*2]! = .slice A (l.getD i (0,0)).1.len c/\cs[i*2+1]! = .int .i64 ((l.getD i (0,0)).2:Nat)/\((0<(l.getD i (0,0)).1.len)->∃ b' o,A=some ⟨b',o,none⟩/\b'≠b/\b'<w.heap.size/\∀ k,k<(l.getD i (0,0)).1.len->w.cell? ⟨b',o+k,none⟩=some (.int .i64 ((l.getD i (0,0)).1.f k).v)):=fun i hi=>by
   obtain⟨u0,hu0,hr0⟩:=p9 i 0 hi (show 0<2 by decide)
   obtain⟨u1,hu1,hr1⟩:=p9 i 1 hi (show 1<2 by decide)
   have hu0:cs[i*2]? = some u0:=hu0
   have hu1:cs[i*2+1]? = some u1:=hu1
   obtain⟨A,c,a1,a2,a3⟩:=hr0
   refine⟨A,c,by rw[get!_some hu0];exact a1,by rw[get!_some hu1];exact hr1,fun hp=>?_⟩
   obtain⟨b',o,c1,c2,c3,c4⟩:=a3 hp
   refine⟨b',o,c1,fun e=>c3 (by rw[e];exact hDb),c2,fun k hk=>?_⟩
   obtain⟨u,c5,c6⟩:=c4 k 0 hk (by decide)
   have c6:u = .int .i64 ((l.getD i (0,0)).1.f k).v:=c6
   rw[← c6]
   have c5:w.cell? ⟨b',o+(k*1+0),none⟩=some u:=c5
   rwa [Nat.mul_one,Nat.add_zero]at c5
  let d:Array (Ix l.length):=Array.ofFn fun i:Fin l.length=>(⟨i.1,i.2⟩:Ix l.length)
  have ed:d.size=l.length:=Array.size_ofFn
  let q:Ix l.length->Pol (Zp p):=fun x=>(l.getD x.1 (0,0)).1
  have hlen:∀ x:Ix l.length,(q x).len≤4096:=fun x=>hl _ (by
   have:l.getD x.1 (0,0)=l[x.1]:=by rw[List.getD_eq_getElem?_getD,List.getElem?_eq_getElem x.2];rfl
   rw[this]
   exact List.getElem_mem x.2)
  have hone:∀ x:Ix l.length,∀ v∈encC cs l.length x,v.oneCell'=true:=fun x v hv=>by
   obtain⟨A,c,a1,a2,_⟩:=hcell x.1 x.2
   unfold encC at hv
   rw[a1,a2]at hv
   simp at hv
   rcases hv with rfl | rfl <;> rfl
  have hH:HoldsK (encC cs l.length) 2 w b 0 d:=fun j hj=>by
   rw[size_flatK,ed]at hj
   have hj2:j / 2<l.length:=by omega
   have hjd:j / 2<d.size:=by rw[ed];exact hj2
   refine⟨?_,by simp only[World.frozen?,p5];simp⟩
   rw[get_flatK _ _ _ _ (by rw[ed];exact hj),Nat.zero_add,cellb,getElem!_pos d (j / 2) hjd]
   have e:d[j / 2]'hjd=⟨j / 2,hj2⟩:=by simp[d]
   rw[e]
   have hjc:j<cs.size:=by omega
   have e3:cs[j]? = some cs[j]! := by rw[getElem!_pos cs j hjc];exact Array.getElem?_eq_getElem hjc
   rw[e3]
   show some cs[j]! = some ([cs[j / 2*2]!,cs[j / 2*2+1]!][j%2]!)
   rcases Nat.mod_two_eq_zero_or_one j with h | h
   ·rw[h,show j / 2*2=j by omega];rfl
   ·rw[h,show j / 2*2+1=j by omega];rfl
  have hcmp:CmpLays Tryz.prog 63 #[] (encC cs l.length) 2 (fun x y=>cmpP (q x) (q y)) b 0 d.size w:=fun m os dk _ x y=>by
   obtain⟨A,c,a1,a2,a3⟩:=hcell x.1 x.2
   obtain⟨A',c',b1,b2,b3⟩:=hcell y.1 y.2
   have keep:∀ {B' o:Nat} {v:Value},B'≠b->B'<w.heap.size->w.cell? ⟨B',o,none⟩=some v->(sortWorldK (encC cs l.length) 2 w b 0 m dk os).cell? ⟨B',o,none⟩=some v:=fun h2 h3 h4=>by
    unfold sortWorldK putRowK
    rw[cell?_grow _ _ _ (by rw[size_putRow];exact h3),cell?_putRow_other _ _ _ _ _ _ (.inl h2)]
    exact h4
   have:=factor_walk (q x).len (q y).len c c' (fun i=>((q x).f i).v) (fun i=>((q y).f i).v) A A' (.int .i64 ((l.getD x.1 (0,0)).2:Nat)) (.int .i64 ((l.getD y.1 (0,0)).2:Nat)) (sortWorldK (encC cs l.length) 2 w b 0 m dk os) (hlen x) (hlen y) (fun hp=>by
    obtain⟨B',o,c1,c2,c3,c4⟩:=a3 hp
    exact⟨B',o,c1,fun i hi=>keep c2 c3 (c4 i hi)⟩) (fun hp=>by
    obtain⟨B',o,c1,c2,c3,c4⟩:=b3 hp
    exact⟨B',o,c1,fun i hi=>keep c2 c3 (c4 i hi)⟩)
   have ex:encC cs l.length x=[.slice A (q x).len c,.int .i64 ((l.getD x.1 (0,0)).2:Nat)]:=by unfold encC;rw[a1,a2]
   have ey:encC cs l.length y=[.slice A' (q y).len c',.int .i64 ((l.getD y.1 (0,0)).2:Nat)]:=by unfold encC;rw[b1,b2]
   rw[ex,ey]
   exact this
  have eg:∀ args w,(callFunc 63 args).run Tryz.prog w = .ok (.enter 63 args) w:=enters_of Tryz.func63 (by kernel_rfl) rfl
  have hcon:=AnyQ.slices_SortFunc_eq sortF 2 Tryz.isAgg55 Tryz.sizeOf55 (encC cs l.length) (fun _=>rfl) hone (fun x y=>cmpP (q x) (q y)) (cmpP_swo q) 63 #[] b 0 cap d w eg hcmp hH hblk (by rw[ed];omega)
  have ev:v0 = .slice (some ⟨b,0,none⟩) d.size cap:=by rw[hv0,ed];exact p4
  rw[ev,hv1]
  refine hcon.mono ?_
  rintro e w' ⟨rfl,n,os,rfl⟩
  refine⟨_,lc,[],rfl,?_,LocsLe.refl _,trivial⟩
  show Sat D w0 r [lc] [gb (fcB (srtL l h0))] (grow (putRow id (Sort.ahead w n) b 0 (flatK (encC cs l.length) 2 (srtA l h0))) os)
  have hF:(flatK (encC cs l.length) 2 (srtA l h0)).size=l.length*2:=by rw[size_flatK,srtA_size]
  have hFg:∀ i j,i<l.length->j<2->∃ x:Ix l.length,(srtL l h0).getD i (0,0)=l.getD x.1 (0,0)/\(flatK (encC cs l.length) 2 (srtA l h0))[i*2+j]! = cs[x.1*2+j]! := fun i j hi hj=>by
   obtain⟨x,hx1,hx2⟩:=srtL_get l h0 hi
   refine⟨x,hx2,?_⟩
   rw[get_flatK _ _ _ _ (by rw[srtA_size];omega),show(i*2+j) / 2=i by omega,show(i*2+j)%2=j by omega,get!_some hx1]
   match j,hj with
   | 0,_=>rfl
   | 1,_=>rfl
  generalize flatK (encC cs l.length) 2 (srtA l h0)=F at *
  have hnoU:r=true->∀(i:Nat) (d:Int),cs[i]? ≠ some (.int .u32 d):=fun hr i d' e=>hs.noU hr b i d' hDb (by rw[cellb];exact e)
  have hcs':∀ k,(putCells id 0 F cs)[k]? = (cs[k]?).map fun x=>if 0≤k/\k<0+F.size then F[k-0]! else x:=fun k=>by
   unfold putCells
   rw[Array.getElem?_mapIdx]
   rfl
  have hup := hs.update (k := 0) (b := b) (l := lc) (B := gb (fcB l)) (cs := cs) (cs' := putCells id 0 F cs) (f' := fcs (srtL l h0)) (w' := putRow id (Sort.ahead w n) b 0 F) rfl rfl rfl p2 p5
   (by
    show(w.heap.modify b (onCells (putCells id 0 F)))[b]? = _
    rw[Array.getElem?_modify,if_pos rfl,p5]
    rfl)
   (by unfold putCells;exact Array.size_mapIdx)
   (fun x hx=>by
    show(w.heap.modify b (onCells (putCells id 0 F)))[x]? = _
    rw[Array.getElem?_modify,if_neg (fun e=>hx e.symm)])
   (by rw[size_putRow];rfl) rfl rfl rfl
   (fun i j hi hj=>by
    have hi:i<l.length:=hi
    have hj:j<2:=hj
    obtain⟨x,hx1,hx2⟩:=hFg i j hi hj
    obtain⟨u,hu,hr⟩:=p9 x.1 j x.2 hj
    have hu:cs[x.1*2+j]? = some u:=hu
    refine⟨u,?_,?_⟩
    ·show(putCells id 0 F cs)[i*2+j]? = some u
     have hk:i*2+j<cs.size:=by omega
     rw[hcs',Array.getElem?_eq_getElem hk]
     show some (if 0≤i*2+j/\i*2+j<0+F.size then F[i*2+j-0]! else _)=some u
     rw[if_pos ⟨Nat.zero_le _,by omega⟩,Nat.sub_zero,hx2,get!_some hu]
    ·have e:fcs (srtL l h0) i j=fcs l x.1 j:=by
      show([pc ((srtL l h0).getD i (0,0)).1,_]:List Cell).getD j .any=_
      rw[hx1]
     rw[e]
     exact hr)
   (fun hr k d' e=>by
    rw[hcs']at e
    cases hk:cs[k]? with
    | none=>rw[hk]at e;cases e
    | some x =>
     rw[hk]at e
     have e:(if 0≤k/\k<0+F.size then F[k-0]! else x) = .int .u32 d':=by simpa using e
     split at e
     ·rename_i h3
      obtain⟨y,_,hy⟩:=hFg (k / 2) (k%2) (by omega) (by omega)
      rw[Nat.sub_zero,show k=k / 2*2+k%2 by omega,hy]at e
      have hb2:y.1*2+k%2<cs.size:=by have:=y.2;omega
      rw[getElem!_pos cs _ hb2]at e
      exact hnoU hr (y.1*2+k%2) d' (by rw[Array.getElem?_eq_getElem hb2,e])
     ·exact hnoU hr k d' (by rw[hk,e]))
  have eB:gb (fcB (srtL l h0))={ gb (fcB l)with f:=fcs (srtL l h0) }:=by
   show Blk.mk _ _ (srtL l h0).length _ _ _=_
   rw[srtL_len]
  rw[eB]
  exact hup.1.ext ⟨rfl,rfl,rfl,by rw[size_grow];exact Nat.le_add_right _ _,fun k hk=>heap_grow_old _ os hk⟩
end
end Go.Proofs.YtibaocbpeaejkaaGreat
/- The program's fpoly.prepare. -/
namespace Go.Proofs.YtibaocbpeaejkaaGreat
open Go.RowKit
namespace Fp
set_option maxHeartbeats 4000000 in
theorem prepare_in {p:Int} {x f:L} (hp:md p) (hx:x.1≤4096) (ex:nfL p x=f) (h0:0<f.1) (h1:f.1≤65):FnOK Tryz.prog false 59 [.c (.int .i64 p),cl x] (.t2 (cl f) (.c (.int .i64 0))):=by
 have hN:=normal_L (x:=x) hp hx
 have hle:=nfL_le p x
 rw[ex]at hN hle
 refine fn_ok (E:=E0) E0_ok Tryz.func59 rfl mixed (by kernel_rfl) (by kernel_rfl) ?_
 conv=>whnf
 refine⟨_,modulus_ok hp,?_⟩
 conv=>whnf
 refine⟨_,hN,?_⟩
 conv=>whnf
 refine bneg (show decide ((f.1:Int)=0)=false by simp;omega) ?_
 conv=>whnf
 refine⟨i64 (by omega) (by omega),?_⟩
 conv=>whnf
 refine bneg (show decide ((64:Int)<(f.1:Int)-1)=false by simp;omega) ?_
 conv=>whnf
 exact⟨rfl,Sub.refl _⟩
end Fp
end Go.Proofs.YtibaocbpeaejkaaGreat
/- slices.SortFunc at an empty list; the program's Factor. -/
namespace Go.Proofs.YtibaocbpeaejkaaGreat
open Go.RowKit Go.Sort
theorem len_zero:FnOK Tryz.prog false 81 [.c (.int .u64 0)] (.c (.int .i64 0)):=by
 refine⟨by kernel_rfl,fun D w vs _ _ hargs=>?_⟩
 match vs,hargs with
 | [v0],⟨e0,_⟩ =>
  obtain rfl:v0 = .int .u64 0:=e0
  have h:=Any.bits_Len (SlLaysF0.n15.bits (P:=Tryz.prog) (ρ:=sortF_ren) { sortF with }) (0:Int) w (by decide) (by decide)
  refine h.mono ?_
  rintro e w' ⟨rfl,rfl⟩
  exact⟨_,rfl,rfl,Below.refl _ _⟩
set_option maxHeartbeats 4000000 in
theorem insert_zero {f:Nat->Nat->Cell} {g:Cell} (_:g.clos=true):FnOK Tryz.prog false 135 [.c (.row 2 0 f),.c (.int .i64 0),.c (.int .i64 0),.c g] (.c .any):=by
 refine fn_ok (E:=E0) E0_ok Tryz.func135 rfl mixed (by kernel_rfl) (by kernel_rfl) ?_
 conv=>whnf
 refine⟨Fp.i64 (by decide) (by decide),?_⟩
 conv=>whnf
 refine loop_unroll 1 ?_
 conv=>whnf
 exact⟨rfl,fun _ _ _ _=>trivial⟩
set_option maxHeartbeats 4000000 in
theorem pdq_zero {f:Nat->Nat->Cell} {F:FuncId}:FnOK Tryz.prog false 109 [.c (.row 2 0 f),.c (.int .i64 0),.c (.int .i64 0),.c (.int .i64 0),.c (.fn F)] (.c .any):=by
 have k:=insert_zero (f:=f) (g := .fn F) rfl
 refine fn_ok (E:=E0) E0_ok Tryz.func109 rfl mixed (by kernel_rfl) (by kernel_rfl) ?_
 conv=>whnf
 refine loop_unroll 1 ?_
 conv=>whnf
 refine⟨Fp.i64 (by decide) (by decide),?_⟩
 conv=>whnf
 refine⟨_,k,?_⟩
 conv=>whnf
 exact⟨rfl,fun _ _ _ _=>trivial⟩
set_option maxHeartbeats 4000000 in
theorem sort_zero {f:Nat->Nat->Cell} {F:FuncId}:FnOK Tryz.prog false 62 [.c (.row 2 0 f),.c (.fn F)] (.c .any):=by
 have k:=pdq_zero (f:=f) (F:=F)
 have k2:FnOK Tryz.prog false 81 [.c (.int .u64 (IntKind.u64.wrap ((0:Nat):Int)))] (.c (.int .i64 0)):=len_zero
 refine fn_ok (E:=E0) E0_ok Tryz.func62 rfl mixed (by kernel_rfl) (by kernel_rfl) ?_
 conv=>whnf
 refine⟨_,k2,?_⟩
 conv=>whnf
 refine⟨_,k,?_⟩
 conv=>whnf
 exact⟨rfl,fun _ _ _ _=>trivial⟩
theorem sub_int {a b:Int} (h:a=b):Sub (.c (.int .i64 a)) (.c (.int .i64 b)):=by rw[h];exact Sub.refl _
section
variable {p:Int} [hp:Prm p]
set_option maxHeartbeats 8000000 in
theorem Factor_walk {x : Fp.L} {f m : Pol (Zp p)} {l : List (Pol (Zp p) × Nat)} {L : List (Pol (Zp p) × Nat)} (hf : 0 < f.len) (hfl : f.len ≤ 65)
  (k0:FnOK Tryz.prog true 59 [.c (.int .i64 p),Fp.cl x] (.t2 (pl f) (.c (.int .i64 0))))
  (k1:FnOK Tryz.prog true 61 [.c (.int .i64 p),pl f] (pl m))
  (k2:FnM Tryz.prog true 60 phB [.c (.int .i64 p),pl m,.c (.int .i64 1)] (.c (.gs 1 0)) phB [gb (fcB l)])
  (k3:FnM Tryz.prog true 62 (gb (fcB l)) [.c (.gs 0 0),.c (.fn 63)] (.c .any) (gb (fcB L)) []) :
  FnOK Tryz.prog true 22 [.c (.int .i64 p),Fp.cl x] (.t3 (.c (.int .i64 (f.lead).v)) (.c (.row 2 L.length (fcs L))) (.c (.int .i64 0))):=by
 have hL:(ofP f).1=f.len:=rfl
 have he:(ofP f).2 (((ofP f).1:Int)-1).toNat=f.lead.v:=by
  rw[show(((ofP f).1:Int)-1).toNat=f.len-1 by omega]
  rfl
 refine fn_ok (E:=E1) E1_ok Tryz.func22 rfl mixed (by kernel_rfl) (by kernel_rfl) ?_
 conv=>whnf
 refine⟨_,k0,?_⟩
 conv=>whnf
 refine⟨_,k1,?_⟩
 conv=>whnf
 refine .inl ⟨[],true,?_⟩
 conv=>whnf
 refine⟨0,phB,[.c (.int .i64 p),pl m,.c (.int .i64 1)],_,_,_,k2,rfl,.inr (Nat.le_refl 2),fun h=>absurd h (by decide),fun h=>absurd h (by decide),fun F' hF'=>?_,rfl,rfl,?_⟩
 ·simp at hF';subst hF';exact fun _ i j _ hj=>fcs_clos l (i:=i) hj
 conv=>whnf
 refine .inl ⟨[],false,?_⟩
 conv=>whnf
 refine⟨1,_,[.c (.gs 0 0),.c (.fn 63)],_,_,_,k3,rfl,.inl rfl,fun _ i j _ hj=>fcs_clos l (i:=i) hj,fun _ i j _ hj=>fcs_clos L (i:=i) hj,fun F hF=>absurd hF List.not_mem_nil,rfl,rfl,?_⟩
 conv=>whnf
 refine⟨Fp.i64 (by omega) (by omega),?_⟩
 conv=>whnf
 refine⟨by omega,by show((ofP f).1:Int)-1<((ofP f).1:Int);omega,?_⟩
 conv=>whnf
 refine⟨fun i j _ hj=>fcs_clos L (i:=i) hj,?_⟩
 conv=>whnf
 exact⟨rfl,subT3 (sub_int he) (Sub.refl _) (Sub.refl _)⟩
set_option maxHeartbeats 8000000 in
theorem Factor_walk0 {x : Fp.L} {f m : Pol (Zp p)} (hf : 0 < f.len) (hfl : f.len ≤ 65)
  (k0:FnOK Tryz.prog true 59 [.c (.int .i64 p),Fp.cl x] (.t2 (pl f) (.c (.int .i64 0))))
  (k1:FnOK Tryz.prog true 61 [.c (.int .i64 p),pl f] (pl m))
  (k2:FnOK Tryz.prog true 60 [.c (.int .i64 p),pl m,.c (.int .i64 1)] (.c (.row 2 0 (fcs ([]:List (Pol (Zp p) × Nat)))))) :
  FnOK Tryz.prog true 22 [.c (.int .i64 p),Fp.cl x] (.t3 (.c (.int .i64 (f.lead).v)) (.c (.row 2 0 (fcs ([]:List (Pol (Zp p) × Nat))))) (.c (.int .i64 0))):=by
 have hL:(ofP f).1=f.len:=rfl
 have k3:=(sort_zero (f:=fcs ([]:List (Pol (Zp p) × Nat))) (F:=63)).weak (r:=true)
 have he:(ofP f).2 (((ofP f).1:Int)-1).toNat=f.lead.v:=by
  rw[show(((ofP f).1:Int)-1).toNat=f.len-1 by omega]
  rfl
 refine fn_ok (E:=E1) E1_ok Tryz.func22 rfl mixed (by kernel_rfl) (by kernel_rfl) ?_
 conv=>whnf
 refine⟨_,k0,?_⟩
 conv=>whnf
 refine⟨_,k1,?_⟩
 conv=>whnf
 refine .inr ?_
 conv=>whnf
 refine⟨_,k2,?_⟩
 conv=>whnf
 refine .inr ?_
 conv=>whnf
 refine⟨_,k3,?_⟩
 conv=>whnf
 refine⟨Fp.i64 (by omega) (by omega),?_⟩
 conv=>whnf
 refine⟨by omega,by show((ofP f).1:Int)-1<((ofP f).1:Int);omega,?_⟩
 conv=>whnf
 exact⟨rfl,subT3 (sub_int he) (Sub.refl _) (Sub.refl _)⟩
theorem FacL.perm {f:Pol (Zp p)} {t:Nat} {l l':List (Pol (Zp p) × Nat)} (h:FacL f t l) (hp:l'.Perm l):FacL f t l' :=
 ⟨fun c hc=>h.all c (hp.mem_iff.1 hc),fun P a b c=>hp.mem_iff.2 (h.mem P a b c),(hp.pairwise_iff fun h e=>h e.symm).2 h.nd⟩
theorem FacL.assoc {f m:Pol (Zp p)} {t:Nat} {l:List (Pol (Zp p) × Nat)} (h:FacL m t l) (h0:f≠0) (m0:m≠0) (h1:Pol.Dvs m f) (h2:Pol.Dvs f m):FacL f t l:=by
 have hv:∀ P,Pol.Irr P->val P m=val P f:=fun P hP=>Nat.le_antisymm (val_le hP h0 h1) (val_le hP m0 h2)
 refine⟨fun c hc=>?_,fun P a b c=>?_,h.nd⟩
 ·obtain⟨a1,a2,a3,a4⟩:=h.all c hc
  exact⟨a1,a2,a3.trans h1,by rw[a4,hv _ a1]⟩
 ·have:=h.mem P a b (c.trans h2)
  rwa [hv P a]at this
structure FacS (f : Pol (Zp p)) (L : List (Pol (Zp p) × Nat)) : Prop where
 f:FacL f 1 L
 s:L.Pairwise fun a b=>cmpP a.1 b.1<0
theorem pairwise_and {α:Type} {R S:α->α->Prop} {l:List α} (h:l.Pairwise R) (k:l.Pairwise S):l.Pairwise fun a b=>R a b/\S a b:=by
 induction l with
 | nil=>exact List.Pairwise.nil
 | cons a l ih =>
  rw[List.pairwise_cons]at h k ⊢
  exact⟨fun b hb=>⟨h.1 b hb,k.1 b hb⟩,ih h.2 k.2⟩
theorem Factor_P (hm:Fp.md p) {x:Fp.L} {f:Pol (Zp p)} (hx:x.1≤4096) (ex:Fp.nfL p x=ofP f) (h0:f≠0) (hl:f.len≤65):∃ L,FacS f L/\L.length≤64/\FnOK Tryz.prog true 22 [.c (.int .i64 p),Fp.cl x] (.t3 (.c (.int .i64 (f.lead).v)) (.c (.row 2 L.length (fcs L))) (.c (.int .i64 0))):=by
 have hp0:=Pol.len_pos h0
 have k0:=(Fp.prepare_in hm hx ex (show 0<f.len from hp0) (show f.len≤65 from hl)).weak (r:=true)
 obtain⟨m,e1,e2,e3,e4,e5⟩:=mo_of hm h0 (by omega)
 have m0:m≠0:=Pol.ne_of_len (by omega)
 have k1:FnOK Tryz.prog true 61 [.c (.int .i64 p),pl f] (pl m):=by
  have:=(Fp.monic_L hm (ofP_NL f (by omega))).weak (r:=true)
  rw[e1]at this
  exact this
 obtain⟨l,l1,l2,l3⟩:=fac_P hm m.len (f:=m) (t:=1) (Nat.le_refl _) m0 e2 (by omega) (by omega)
 have l4:=l1.assoc h0 m0 e3 e4
 by_cases hl0:l.length=0
 ·obtain rfl:l=[]:=List.length_eq_zero_iff.1 hl0
  exact⟨[],⟨l4,List.Pairwise.nil⟩,Nat.zero_le _,Factor_walk0 hp0 hl k0 k1 (l3.shut (fun i j _ hj=>fcs_clos [] (i:=i) hj) rfl)⟩
 ·have hl1:0<l.length:=by omega
  have ks:=sort_m (l:=l) hl1 (by omega) (fun c hc=>by
   have:=(l4.all c hc).2.2.1.len h0
   omega) (r:=true)
  have hperm:=srtL_perm l hl1
  have l5:=l4.perm hperm
  refine⟨srtL l hl1,⟨l5,?_⟩,by rw[srtL_len];omega,Factor_walk hp0 hl k0 k1 l3 ks⟩
  refine(pairwise_and (srtL_sorted l hl1) l5.nd).imp fun {a b} h=>?_
  have h1:cmpP b.1 a.1 = -cmpP a.1 b.1:=cmpV_neg _ _ _ _
  have h2:cmpP a.1 b.1≠0:=fun e=>h.2 (cmpP_zero e)
  have h3:=h.1
  omega
end
end Go.Proofs.YtibaocbpeaejkaaGreat
/- Factorizations are the only ones. -/
namespace Go.Proofs.YtibaocbpeaejkaaGreat
open Go.RowKit
theorem md_prm {p:Int} (hm:Fp.md p):Prm p:=prm_of hm
section
variable {p:Int} [hp:Prm p]
theorem irr_two {P:Pol (Zp p)} (h:P.len=2):Pol.Irr P:=by
 refine⟨by omega,fun a b e=>?_⟩
 have hP:P≠0:=Pol.ne_of_len (by omega)
 have ha:a≠0:=fun e1=>hP (by rw[e,e1,Crg.zero_mul])
 have hb:b≠0:=fun e1=>hP (by rw[e,e1,Crg.mul_zero])
 have h1:=Pol.len_mul ha hb
 rw[← e]at h1
 have:=Pol.len_pos ha
 have:=Pol.len_pos hb
 omega
theorem FacL.of_prod {f:Pol (Zp p)} {l:List (Pol (Zp p) × Nat)} (h0:f≠0) (h:∀ c∈l,Pol.Irr c.1/\c.1.lead=1/\1≤c.2) (hn:l.Pairwise fun a b=>a.1≠b.1) (h1:Pol.Dvs f (prL l)) (h2:Pol.Dvs (prL l) f):FacL f 1 l:=by
 have hne:prL l≠0:=prL_ne fun c hc=>(h c hc).1.ne
 have key:∀ {P:Pol (Zp p)},Pol.Irr P->P.lead=1->(∀ e,(P,e)∈l->val P (prL l)=e)/\((∀ e,(P,e) ∉ l)->val P (prL l)=0):=fun hP lP=>prL_val hP lP (fun c hc=>⟨(h c hc).1,(h c hc).2.1⟩) hn
 have hv:∀ P,Pol.Irr P->val P f=val P (prL l):=fun P hP=>Nat.le_antisymm (val_le hP hne h1) (val_le hP h0 h2)
 refine⟨fun c hc=>?_,fun P hP lP dP=>?_,hn⟩
 ·obtain⟨a1,a2,a3⟩:=h c hc
  have e:=(key a1 a2).1 c.2 hc
  refine⟨a1,a2,(val_pos a1 h0).2 ?_,?_⟩
  ·rw[hv _ a1,e];exact a3
  ·rw[hv _ a1,e,Nat.one_mul]
 ·have h3:=(val_pos hP h0).1 dP
  rw[hv P hP]at h3
  by_cases hx:∃ e,(P,e)∈l
  ·obtain⟨e,he⟩:=hx
   have h4:=(key hP lP).1 e he
   rw[hv P hP,Nat.one_mul,h4]
   exact he
  ·have h4:=(key hP lP).2 fun e he=>hx ⟨e,he⟩
   omega
theorem cmpP_neg (a b:Pol (Zp p)):cmpP b a = -cmpP a b:=cmpV_neg _ _ _ _
theorem sorted_eq : ∀ {l m : List (Pol (Zp p) × Nat)}, l.Pairwise (fun a b => cmpP a.1 b.1 < 0) → m.Pairwise (fun a b => cmpP a.1 b.1 < 0) → (∀ c, c ∈ l ↔ c ∈ m) → l = m
 | [],[],_,_,_=>rfl
 | [],b :: m,_,_,h=>absurd ((h b).2 (by simp)) (by simp)
 | a :: l,[],_,_,h=>absurd ((h a).1 (by simp)) (by simp)
 | a :: l,b :: m,h1,h2,h=>by
  rw[List.pairwise_cons]at h1 h2
  have e:a=b:=by
   rcases List.mem_cons.1 ((h a).1 (by simp))with e | e
   ·exact e
   ·rcases List.mem_cons.1 ((h b).2 (by simp))with e2 | e2
    ·exact e2.symm
    ·have h3:=h1.1 b e2
     have h4:=h2.1 a e
     have:=cmpP_neg a.1 b.1
     omega
  subst e
  have irr:∀ {x:Pol (Zp p)},¬ cmpP x x<0:=fun {x} h=>by have:=cmpP_neg x x;omega
  have e2:l=m:=sorted_eq h1.2 h2.2 fun c=>by
   constructor
   ·intro hc
    rcases List.mem_cons.1 ((h c).1 (List.mem_cons_of_mem _ hc))with e | e
    ·subst e;exact absurd (h1.1 c hc) irr
    ·exact e
   ·intro hc
    rcases List.mem_cons.1 ((h c).2 (List.mem_cons_of_mem _ hc))with e | e
    ·subst e;exact absurd (h2.1 c hc) irr
    ·exact e
  rw[e2]
theorem FacL.mem_iff {f:Pol (Zp p)} {l:List (Pol (Zp p) × Nat)} (h:FacL f 1 l) (c:Pol (Zp p) × Nat):c∈l↔Pol.Irr c.1/\c.1.lead=1/\Pol.Dvs c.1 f/\c.2=1*val c.1 f:=by
 refine⟨h.all c,fun⟨a1,a2,a3,a4⟩=>?_⟩
 have:=h.mem c.1 a1 a2 a3
 rwa [← a4]at this
theorem FacS.eq {f:Pol (Zp p)} {l m:List (Pol (Zp p) × Nat)} (h:FacS f l) (k:FacS f m):l=m:=sorted_eq h.s k.s fun c=>by rw[h.f.mem_iff,k.f.mem_iff]
end
end Go.Proofs.YtibaocbpeaejkaaGreat
/- The document's Before, Same, next, first, Light, over polynomials; the program's Irreducible. -/
namespace Go.Proofs.YtibaocbpeaejkaaGreat
open Go.RowKit
section
variable {p:Int} [hp:Prm p]
set_option maxHeartbeats 4000000 in
theorem before_ok {a b:Pol (Zp p)} (ha:a.len≤4096) (_:b.len≤4096):FnOK Tryz.prog false 42 [pl a,pl b] (.c (.bool (decide (cmpP a b<0)))):=by
 by_cases hne:a.len=b.len
 ·have hr:cmpP a b=cmpF (fun i=>(a.f i).v) (fun i=>(b.f i).v) a.len:=by
   unfold cmpP cmpV
   rw[if_pos hne]
  have hL:(ofP a).1=a.len:=rfl
  refine fn_ok (E:=E0) E0_ok Tryz.func42 rfl mixed (by kernel_rfl) (by kernel_rfl) ?_
  conv=>whnf
  refine bneg (show(!decide ((a.len:Int)=(b.len:Int)))=false by rw[hne];simp) ?_
  conv=>whnf
  refine⟨Fp.i64 (by omega) (by omega),?_⟩
  conv=>whnf
  refine loop_ints (fun k:Nat=>gst [(0,pl a),(1,pl b),(5,.c (.int .i64 ((k:Int)-1)))] []) (fun k=>k) (fun k=>k≤a.len/\cmpP a b=cmpF (fun i=>(a.f i).v) (fun i=>(b.f i).v) k) a.len rfl ?_ ⟨Nat.le_refl _,hr⟩ fun k hk=>?_
  ·exact Weak.gen [] rfl trivial ⟨.inl ⟨_,_,rfl,rfl,fun _ _ _ _=>rfl⟩,.inl ⟨_,_,rfl,rfl,fun _ _ _ _=>rfl⟩,⟨_,rfl,rfl⟩,trivial⟩
  obtain⟨hk1,hk2⟩:=hk
  match k,hk1,hk2 with
  | 0,hk1,hk2 =>
   have h0:cmpP a b=0:=hk2
   conv=>whnf
   exact⟨rfl,Fp.subB (decide_eq_false (by omega)).symm⟩
  | k+1,hk1,hk2 =>
   have ek:(((k+1:Nat):Int)-1).toNat=k:=by omega
   by_cases e:(a.f k).v=(b.f k).v
   ·have h1:cmpP a b=cmpF (fun i=>(a.f i).v) (fun i=>(b.f i).v) k:=by
     rw[hk2]
     conv=>lhs;unfold cmpF
     rw[if_pos e]
    conv=>whnf
    refine bpos (show decide ((0:Int)≤((k+1:Nat):Int)-1)=true from decide_eq_true (by omega)) ?_
    conv=>whnf
    refine⟨by omega,by show((k+1:Nat):Int)-1<(a.len:Int);omega,?_⟩
    conv=>whnf
    refine⟨by omega,by show((k+1:Nat):Int)-1<(b.len:Int);omega,?_⟩
    conv=>whnf
    refine bneg (show(!decide ((a.f (((k+1:Nat):Int)-1).toNat).v=(b.f (((k+1:Nat):Int)-1).toNat).v))=false by rw[ek,decide_eq_true e];rfl) ?_
    conv=>whnf
    refine⟨Fp.i64 (by omega) (by omega),?_⟩
    conv=>whnf
    exact⟨k,by omega,Weak.gen [] rfl trivial ⟨.inl ⟨_,_,rfl,rfl,fun _ _ _ _=>rfl⟩,.inl ⟨_,_,rfl,rfl,fun _ _ _ _=>rfl⟩,⟨_,rfl,by omega⟩,trivial⟩,by omega,h1⟩
   ·have h1:decide ((a.f (((k+1:Nat):Int)-1).toNat).v<(b.f (((k+1:Nat):Int)-1).toNat).v)=decide (cmpP a b<0):=by
     rw[ek,hk2]
     unfold cmpF
     rw[if_neg e]
     exact decide_eq_decide.2 cI_lt.symm
    conv=>whnf
    refine bpos (show decide ((0:Int)≤((k+1:Nat):Int)-1)=true from decide_eq_true (by omega)) ?_
    conv=>whnf
    refine⟨by omega,by show((k+1:Nat):Int)-1<(a.len:Int);omega,?_⟩
    conv=>whnf
    refine⟨by omega,by show((k+1:Nat):Int)-1<(b.len:Int);omega,?_⟩
    conv=>whnf
    refine bpos (show(!decide ((a.f (((k+1:Nat):Int)-1).toNat).v=(b.f (((k+1:Nat):Int)-1).toNat).v))=true by rw[ek,decide_eq_false e];rfl) ?_
    conv=>whnf
    refine⟨by omega,by show((k+1:Nat):Int)-1<(a.len:Int);omega,?_⟩
    conv=>whnf
    refine⟨by omega,by show((k+1:Nat):Int)-1<(b.len:Int);omega,?_⟩
    conv=>whnf
    exact⟨rfl,Fp.subB h1⟩
 ·have hr:decide ((a.len:Int)<(b.len:Int))=decide (cmpP a b<0):=by
   unfold cmpP cmpV
   rw[if_neg hne]
   exact decide_eq_decide.2 (by rw[cI_lt])
  refine fn_ok (E:=E0) E0_ok Tryz.func42 rfl mixed (by kernel_rfl) (by kernel_rfl) ?_
  conv=>whnf
  refine bpos (show(!decide ((a.len:Int)=(b.len:Int)))=true by rw[decide_eq_false (by omega)];rfl) ?_
  conv=>whnf
  exact⟨rfl,Fp.subB hr⟩
end
end Go.Proofs.YtibaocbpeaejkaaGreat
/- The document's next, first, Light, over polynomials; the program's Irreducible. -/
namespace Go.Proofs.YtibaocbpeaejkaaGreat
open Go.RowKit
theorem carry {q : Nat} (hq : 2 ≤ q) : ∀ (i j : Nat), (∀ k, k < i → j / q ^ k % q = q - 1) → j / q ^ i % q + 1 < q → ∀ k, (j + 1) / q ^ k % q = if k < i then 0 else if k = i then j / q ^ k % q + 1 else j / q ^ k % q
 | 0,j,_,h,k=>by
  rw[Nat.pow_zero,Nat.div_one]at h
  have e:=Nat.div_add_mod j q
  have e1:(j+1)%q=j%q+1:=by
   conv=>lhs;rw[← e,Nat.add_assoc,Nat.mul_add_mod_self_left]
   exact Nat.mod_eq_of_lt h
  have e2:(j+1) / q=j / q:=by
   conv=>lhs;rw[← e,Nat.add_assoc,Nat.mul_add_div (by omega),Nat.div_eq_of_lt h]
   rfl
  match k with
  | 0=>rw[if_neg (by omega),if_pos rfl,Nat.pow_zero,Nat.div_one,Nat.div_one];exact e1
  | k+1 =>
   rw[if_neg (by omega),if_neg (by omega),Nat.pow_succ,Nat.mul_comm,← Nat.div_div_eq_div_mul,← Nat.div_div_eq_div_mul,e2]
 | i+1,j,h0,h,k=>by
  have e:=Nat.div_add_mod j q
  have h1:j%q=q-1:=by have:=h0 0 (by omega);rwa [Nat.pow_zero,Nat.div_one]at this
  have e1:j+1=q*(j / q+1):=by rw[Nat.mul_add];omega
  have e2:(j+1) / q=j / q+1:=by rw[e1];exact Nat.mul_div_cancel_left _ (by omega)
  have sh:∀ x k:Nat,x / q^(k+1)=x / q / q^k:=fun x k=>by rw[Nat.pow_succ,Nat.mul_comm,← Nat.div_div_eq_div_mul]
  match k with
  | 0=>rw[if_pos (by omega),Nat.pow_zero,Nat.div_one,e1];exact Nat.mul_mod_right _ _
  | k+1 =>
   rw[sh,e2,carry hq i (j / q) (fun k hk=>by rw[← sh];exact h0 (k+1) (by omega)) (by rw[← sh];exact h) k,sh]
   by_cases c:k<i
   ·rw[if_pos c,if_pos (show k+1<i+1 by omega)]
   ·rw[if_neg c,if_neg (show ¬ k+1<i+1 by omega)]
    by_cases c2:k=i
    ·rw[if_pos c2,if_pos (show k+1=i+1 by omega)]
    ·rw[if_neg c2,if_neg (show ¬ k+1=i+1 by omega)]
theorem all_top {q : Nat} (hq : 2 ≤ q) : ∀ (n j : Nat), j < q ^ n → (∀ k, k < n → j / q ^ k % q = q - 1) → j + 1 = q ^ n
 | 0,j,h,_=>by rw[Nat.pow_zero]at h ⊢;omega
 | n+1,j,h,h0=>by
  have e:=Nat.div_add_mod j q
  have h1:j%q=q-1:=by have:=h0 0 (by omega);rwa [Nat.pow_zero,Nat.div_one]at this
  have sh:∀ x k:Nat,x / q^(k+1)=x / q / q^k:=fun x k=>by rw[Nat.pow_succ,Nat.mul_comm,← Nat.div_div_eq_div_mul]
  have h2:j / q<q^n:=by rw[Nat.pow_succ,Nat.mul_comm]at h;exact Nat.div_lt_of_lt_mul h
  have h3:=all_top hq n (j / q) h2 fun k hk=>by rw[← sh];exact h0 (k+1) (by omega)
  rw[Nat.pow_succ,← h3,Nat.mul_comm,Nat.mul_add]
  omega
section
variable {p:Int} [hp:Prm p]
noncomputable def mnp (n j:Nat):Pol (Zp p):=⟨fun i=>if i<n then Zp.red ((j / p.toNat^i%p.toNat:Nat):Int)else if i=n then 1 else 0,n+1,fun k hk=>by rw[if_neg (by omega),if_neg (by omega)]⟩
theorem mnp_len (n j:Nat):(mnp n j:Pol (Zp p)).len=n+1:=Pol.len_eq (fun k hk=>by show(if k<n then _ else if k=n then _ else _)=_;rw[if_neg (by omega),if_neg (by omega)]) (by
 show(if n<n then _ else if n=n then(1:Zp p)else 0)≠0
 rw[if_neg (Nat.lt_irrefl n),if_pos rfl]
 exact Fld.one_ne)
theorem mnp_v {n j i:Nat} (h:i<n):((mnp n j:Pol (Zp p)).f i).v=((j / p.toNat^i%p.toNat:Nat):Int):=by
 show(if i<n then Zp.red ((j / p.toNat^i%p.toNat:Nat):Int)else if i=n then(1:Zp p)else 0).v=_
 rw[if_pos h]
 have h2:=hp.two
 have:j / p.toNat^i%p.toNat<p.toNat:=Nat.mod_lt _ (by omega)
 exact Int.emod_eq_of_lt (by omega) (by omega)
theorem mnp_top (n j:Nat):((mnp n j:Pol (Zp p)).f n).v=1:=by
 show(if n<n then _ else if n=n then(1:Zp p)else 0).v=1
 rw[if_neg (Nat.lt_irrefl n),if_pos rfl]
 exact Int.emod_eq_of_lt (by omega) (by have:=hp.two;omega)
theorem mnp_ex {n:Nat} {a:Pol (Zp p)} (hl:a.len=n+1) (h1:a.lead=1):∃ j,j<p.toNat^n/\a=mnp n j:=by
 refine⟨cdp a n,cdp_lt a n,Pol.ext fun i=>?_⟩
 show a.f i=if i<n then Zp.red ((cdp a n / p.toNat^i%p.toNat:Nat):Int)else if i=n then 1 else 0
 by_cases c:i<n
 ·rw[if_pos c,cdp_dig a c,show(((a.f i).v.toNat:Nat):Int)=(a.f i).v by have:=(a.f i).r;omega,Zp.red_v]
 ·rw[if_neg c]
  by_cases c2:i=n
  ·rw[if_pos c2,c2,← h1];exact(lead_f hl)
  ·rw[if_neg c2];exact Pol.len_out a i (by omega)
theorem updI' {f g:Nat->Int} {k j y:Nat} {v:Int} (h:(if j=k then v else f j)=g j) (hy:y<1):updF (fun i _ => .int .i64 (f i)) k 0 [.int .i64 v] j y = .int .i64 (g j):=by
 obtain rfl:y=0:=by omega
 exact updI h
noncomputable def nxF (n j i:Nat):Nat->Int:=fun k=>if k<i then 0 else((mnp n j:Pol (Zp p)).f k).v
end
end Go.Proofs.YtibaocbpeaejkaaGreat
/- The document's first and Light, over polynomials; the program's Irreducible. -/
namespace Go.Proofs.YtibaocbpeaejkaaGreat
open Go.RowKit
section
variable {p:Int} [hp:Prm p]
def isI : List (Pol (Zp p) × Nat) → Bool
 | [c]=>decide ((c.2:Int)=1)
 | _=>false
set_option maxHeartbeats 4000000 in
theorem irred_ok {x:Fp.L} {L:List (Pol (Zp p) × Nat)} {v:Int} (k:FnOK Tryz.prog true 22 [.c (.int .i64 p),Fp.cl x] (.t3 (.c (.int .i64 v)) (.c (.row 2 L.length (fcs L))) (.c (.int .i64 0)))):FnOK Tryz.prog true 28 [.c (.int .i64 p),Fp.cl x] (.t2 (.c (.bool (isI L))) (.c (.int .i64 0))):=by
 by_cases h:L.length=1
 ·obtain⟨c,rfl⟩:=List.length_eq_one_iff.1 h
  refine fn_ok (E:=E1) E1_ok Tryz.func28 rfl mixed (by kernel_rfl) (by kernel_rfl) ?_
  conv=>whnf
  refine⟨_,k,?_⟩
  conv=>whnf
  refine⟨by decide,by show(0:Int)<1;decide,?_⟩
  conv=>whnf
  exact⟨rfl,Sub.refl _⟩
 ·have e:isI L=false:=by
   match L,h with
   | [],_=>rfl
   | [_],h=>exact absurd rfl h
   | _ :: _ :: _,_=>rfl
  rw[e]
  refine fn_ok (E:=E1) E1_ok Tryz.func28 rfl mixed (by kernel_rfl) (by kernel_rfl) ?_
  conv=>whnf
  refine⟨_,k,?_⟩
  conv=>whnf
  refine bneg (show gw true (decide ((L.length:Int)=1))=false by rw[decide_eq_false (by omega)];rfl) ?_
  conv=>whnf
  exact⟨rfl,Sub.refl _⟩
theorem isI_iff {f:Pol (Zp p)} {L:List (Pol (Zp p) × Nat)} (h:FacL f 1 L) (h0:f≠0):isI L=true↔Pol.Irr f:=by
 obtain⟨M,lM,mM,g1,g2⟩:=monic_of h0
 have m0:M≠0:=Pol.ne_of_len (by have:=Pol.len_pos h0;omega)
 have hM:=h.assoc m0 h0 g2 g1
 have hi:Pol.Irr f↔Pol.Irr M:=⟨fun k=>k.assoc g1 g2 lM,fun k=>k.assoc g2 g1 lM.symm⟩
 rw[hi,hM.irr_iff m0 mM]
 constructor
 ·intro e
  match L,e with
  | [c],e =>
   have e:decide ((c.2:Int)=1)=true:=e
   have e:=of_decide_eq_true e
   exact⟨c.1,by rw[show c=(c.1,1)from Prod.ext rfl (by show c.2=1;omega)]⟩
 ·rintro ⟨x,rfl⟩
  rfl
end
end Go.Proofs.YtibaocbpeaejkaaGreat
/- What is read as data, in abstract words; the last step of a law's row. -/
namespace Go.Proofs.YtibaocbpeaejkaaGreat
open Go.ChangeShapes Go.WideShapes Go.ChangeAt Go.RowKit
theorem lawOwn:ownKnob Tryz.prog.godebug=none:=by kernel_rfl
theorem lawLaid:laidOutB Tryz.prog=true:=by kernel_rfl
section
variable {H:Type} {enc:TypeId × Value->H} {P:Program}
theorem post_below {f : Func} {s : ChangeSpec} {apart fresh handsOn again : Bool} {W W' : World} {args : Array Value} {v : Value} {ds gs : List (DataW H)} {before pa pv : List MemPlace}
  (hW:DataW.Whole enc P f.params.toList s.vars apart W args.toList ds gs before)
  (hres:∀(b:Nat) (sp:Nat->Bool) (hd:Bool),DataW.TrodAll enc P W' b sp hd f.resultTypes.toList (v.resultList f.resultTypes.size) (s.fn H (ds++gs)).results [])
  (hargs:∀ sp:Nat->Bool,(∀ p∈before,sp p.block=true)->DataW.TrodAll enc P W' 0 sp true f.params.toList args.toList (s.fn H (ds++gs)).args pa)
  (hvars:∀ sp:Nat->Bool,(∀ p∈before,sp p.block=true)->DataW.TrodVars enc P W' sp s.vars (s.fn H (ds++gs)).vars pv)
  (hps:before=pa++pv) (hb:Below W.heap.size W W')
  (hok:∀(j:Nat) (t:TypeId) (r:Value),f.resultTypes[j]? = some t->(v.resultList f.resultTypes.size)[j]? = some r->Value.okWide P W' .any 0 t r) :
  s.post enc P f apart fresh handsOn again W args v W':=by
 have hlt:∀ p∈before,p.block<W.heap.size:=fun p hp=>hW.lt p hp
 have hold:∀ p∈before,(fun b=>decide (b<W.heap.size)) p.block=true:=fun p hp=>by simpa using hlt p hp
 refine⟨ds,gs,before,[],pa,pv,hW,hres _ _ _,hargs _ hold,hvars _ hold,World.keptBut_mono (fun p hp=>⟨hp,?_⟩) (hb.frame (·∈before)),fun _=>?_⟩
 ·rw[hps,List.mem_append]at hp
  exact Or.inr hp
 ·obtain⟨_,_,_,_,_,hz,hn⟩:=hW
  refine⟨hok,_,_,([]++pa)++pv,⟨[]++pa,pv,trodAll_append (hargs _ (fun _ _=>rfl)) (hres _ _ _),hvars _ (fun _ _=>rfl),rfl,?_,?_⟩,?_⟩
  ·intro b off hp
   have hin:MemPlace.cell b off∈before:=by rw[hps];simpa using hp
   rw[hb.frozen (hlt _ hin)]
   exact hz b off hin
  ·intro ha
   have:=hn ha
   rw[hps]at this
   simpa using this
  ·intro p hp _
   rw[hps]
   simpa using hp
theorem Below.trodS {t : TypeId} (hl : laidOutB P = true) (hr : P.readableRec t = true) (hrow : t < P.types.size) {W W' : World} {sp : Nat → Bool} {v : Value} {d : DataW H} {ps : List MemPlace}
  (h:DataW.Trod enc P W 0 (fun _=>true) true t v d ps) (hb:Below W.heap.size W W') (hlt:∀ x∈ps,x.block<W.heap.size) (hs:∀ x∈ps,sp x.block=true) :
  DataW.Trod enc P W' 0 sp true t v d ps :=
 WideElems.Trod_stays hl hr hrow h (fun x hx=>hb.same (hlt x hx)) hs
end
section
variable {H:Type} {enc:TypeId × Value->H} {P:Program} {w:World} {sp:Nat->Bool} {held:Bool}
theorem cell_int {t fuel:Nat} {k:IntKind} {cs:List Value} {x:DataW H × List MemPlace} (ht:P.underlying t=some (.int k)) (h:DataW.trod enc P w 0 sp held fuel t cs=some x):∃ n,cs=[.int k n]/\(Lit.int k n).wf=true:=by
 obtain⟨n,h1,_,h2⟩:=DataW.trod_int ht h
 exact⟨n,h1,h2⟩
end
theorem law_call {r:Bool} {f:FuncId} {al:List V} (h:FnOK Tryz.prog r f al (.c (.bool true))) {w:World} {vs:List Value} (hv:VRels (fun _=>False) w [] al vs):Calls Tryz.prog f vs.toArray w fun e w'=>e = .returned (.bool true)/\Below w.heap.size w w' :=
 (h.2 (fun _=>False) w vs (fun b hb=>hb.elim) (fun _ b o d hb=>hb.elim) hv).mono fun _ _ ⟨v,he,hv,hb⟩=>⟨by rw[he,show v = .bool true from hv],hb⟩
end Go.Proofs.YtibaocbpeaejkaaGreat
/- The argument of the statements about polynomials modulo a prime, opened. -/
namespace Go.Proofs.YtibaocbpeaejkaaGreat
open Go.ChangeShapes Go.WideShapes Go.ChangeAt Go.RowKit
namespace Fp
end Fp
section
variable {H:Type} {enc:TypeId × Value->H} {P:Program} {w:World} {sp:Nat->Bool} {held:Bool}
end
end Go.Proofs.YtibaocbpeaejkaaGreat
/- The law FpolyUnique, as a contract. -/
namespace Go.Proofs.YtibaocbpeaejkaaGreat
open Go.RowKit
section
variable {p:Int} [hp:Prm p]
end
end Go.Proofs.YtibaocbpeaejkaaGreat
/- The law FpolyUnique: the walk. -/
namespace Go.Proofs.YtibaocbpeaejkaaGreat
open Go.RowKit
section
variable {p:Int}
theorem Mul_P [hp:Prm p] (hm:Fp.md p) {n m:Nat} {a c:Nat->Int} {F G:Pol (Zp p)} (hn:n≤1024) (hm2:m≤1024) (eF:Fp.nfL p (n,a)=ofP F) (eG:Fp.nfL p (m,c)=ofP G):FnOK Tryz.prog false 25 [.c (.int .i64 p),.c (il n a),.c (il m c)] (.t2 (pl (F*G)) (.c (.int .i64 0))):=by
 have lF:F.len≤n:=by have:=Fp.nfL_le p (n,a);rw[eF]at this;exact this
 have lG:G.len≤m:=by have:=Fp.nfL_le p (m,c);rw[eG]at this;exact this
 have k:=times_P hm (a:=F) (b:=G) (by omega) (by omega)
 have k2:FnOK Tryz.prog false 69 [.c (.int .i64 p),Fp.cl (Fp.nfL p (n,a)),Fp.cl (Fp.nfL p (m,c))] (pl (F*G)):=by rw[eF,eG];exact k
 exact Fp.mul_ok (k:=(F*G).len) (X:=fun i=>((F*G).f i).v) hm (by omega) (by omega) k2
end
end Go.Proofs.YtibaocbpeaejkaaGreat
