/- slices.SortFunc at lists of factors: the contract. -/
import Derived.Test.YtibaocbpeaejkaaGreatUk12
import Derived.Test.YtibaocbpeaejkaaGreatUk7
import Derived.Test.YtibaocbpeaejkaaGreatUk6
import Derived.Test.YtibaocbpeaejkaaGreatRows
import Derived.ProofKit
import Derived.OpenShut
import Derived.Carry
import Derived.ChangeSame
import Derived.Test.YtibaocbpeaejkaaGreatUk4
import Derived.Test.YtibaocbpeaejkaaGreatUk11
namespace Go.Proofs.YtibaocbpeaejkaaGreat
open Go.RowKit Go.Sort
section
variable {p:Int} [hp:Prm p]
theorem get!_some {α:Type} [Inhabited α] {a:Array α} {i:Nat} {x:α} (h:a[i]? = some x):a[i]! = x:=by
 rw[getElem!_def,h]
noncomputable def srtA (l:List (Pol (Zp p) × Nat)) (h0:0<l.length):Array (Ix l.length) :=
 letI:Inhabited (Ix l.length):=⟨⟨0,h0⟩⟩
 pdq (ltOf fun x y:Ix l.length=>cmpP (l.getD x.1 (0,0)).1 (l.getD y.1 (0,0)).1) (Array.ofFn fun i:Fin l.length=>(⟨i.1,i.2⟩:Ix l.length)) 0 (Array.ofFn fun i:Fin l.length=>(⟨i.1,i.2⟩:Ix l.length)).size (Lib.bitLen (Array.ofFn fun i:Fin l.length=>(⟨i.1,i.2⟩:Ix l.length)).size) true true
noncomputable def srtL (l:List (Pol (Zp p) × Nat)) (h0:0<l.length):List (Pol (Zp p) × Nat):=(srtA l h0).toList.map fun x=>l.getD x.1 (0,0)
theorem srtA_size (l:List (Pol (Zp p) × Nat)) (h0:0<l.length):(srtA l h0).size=l.length:=by
 letI:Inhabited (Ix l.length):=⟨⟨0,h0⟩⟩
 have h:=(pdq_sorts (ltOf fun x y:Ix l.length=>cmpP (l.getD x.1 (0,0)).1 (l.getD y.1 (0,0)).1) (cmpP_swo fun x:Ix l.length=>(l.getD x.1 (0,0)).1) (Array.ofFn fun i:Fin l.length=>(⟨i.1,i.2⟩:Ix l.length)) 0 (Array.ofFn fun i:Fin l.length=>(⟨i.1,i.2⟩:Ix l.length)).size (Lib.bitLen (Array.ofFn fun i:Fin l.length=>(⟨i.1,i.2⟩:Ix l.length)).size) true true (Nat.zero_le _) (Nat.le_refl _) (Or.inl rfl)).1.1
 have e:(Array.ofFn fun i:Fin l.length=>(⟨i.1,i.2⟩:Ix l.length)).size=l.length:=Array.size_ofFn
 exact h.trans e
theorem srtL_len (l:List (Pol (Zp p) × Nat)) (h0:0<l.length):(srtL l h0).length=l.length:=by
 unfold srtL
 rw[List.length_map,Array.length_toList,srtA_size]
theorem srtL_perm (l:List (Pol (Zp p) × Nat)) (h0:0<l.length):(srtL l h0).Perm l:=by
 letI:Inhabited (Ix l.length):=⟨⟨0,h0⟩⟩
 have h:=(pdq_sorts (ltOf fun x y:Ix l.length=>cmpP (l.getD x.1 (0,0)).1 (l.getD y.1 (0,0)).1) (cmpP_swo fun x:Ix l.length=>(l.getD x.1 (0,0)).1) (Array.ofFn fun i:Fin l.length=>(⟨i.1,i.2⟩:Ix l.length)) 0 (Array.ofFn fun i:Fin l.length=>(⟨i.1,i.2⟩:Ix l.length)).size (Lib.bitLen (Array.ofFn fun i:Fin l.length=>(⟨i.1,i.2⟩:Ix l.length)).size) true true (Nat.zero_le _) (Nat.le_refl _) (Or.inl rfl)).1
 obtain⟨h1,_,h2⟩:=h
 have h3:(srtA l h0).toList.Perm (Array.ofFn fun i:Fin l.length=>(⟨i.1,i.2⟩:Ix l.length)).toList:=by
  have e1:=srtA_size l h0
  have e2:(Array.ofFn fun i:Fin l.length=>(⟨i.1,i.2⟩:Ix l.length)).size=l.length:=Array.size_ofFn
  have a1:(srtA l h0).extract 0 (Array.ofFn fun i:Fin l.length=>(⟨i.1,i.2⟩:Ix l.length)).size=srtA l h0:=by rw[e2];exact Array.extract_eq_self_of_le (Nat.le_of_eq e1)
  have a2:(Array.ofFn fun i:Fin l.length=>(⟨i.1,i.2⟩:Ix l.length)).extract 0 (Array.ofFn fun i:Fin l.length=>(⟨i.1,i.2⟩:Ix l.length)).size=Array.ofFn fun i:Fin l.length=>(⟨i.1,i.2⟩:Ix l.length):=Array.extract_size
  rw[a2]at h2
  have h2':((srtA l h0).extract 0 (Array.ofFn fun i:Fin l.length=>(⟨i.1,i.2⟩:Ix l.length)).size).toList.Perm _:=h2
  rw[a1]at h2'
  exact h2'
 have h4:=h3.map fun x=>l.getD x.1 (0,0)
 have e:(Array.ofFn fun i:Fin l.length=>(⟨i.1,i.2⟩:Ix l.length)).toList.map (fun x=>l.getD x.1 (0,0))=l:=by
  refine List.ext_getElem (by simp) fun i h5 h6=>?_
  simp[List.getD_eq_getElem?_getD,h6]
 rw[e]at h4
 exact h4
theorem srtL_sorted (l:List (Pol (Zp p) × Nat)) (h0:0<l.length):(srtL l h0).Pairwise fun a b=>¬ cmpP b.1 a.1<0:=by
 letI:Inhabited (Ix l.length):=⟨⟨0,h0⟩⟩
 have h:=(pdq_sorts (ltOf fun x y:Ix l.length=>cmpP (l.getD x.1 (0,0)).1 (l.getD y.1 (0,0)).1) (cmpP_swo fun x:Ix l.length=>(l.getD x.1 (0,0)).1) (Array.ofFn fun i:Fin l.length=>(⟨i.1,i.2⟩:Ix l.length)) 0 (Array.ofFn fun i:Fin l.length=>(⟨i.1,i.2⟩:Ix l.length)).size (Lib.bitLen (Array.ofFn fun i:Fin l.length=>(⟨i.1,i.2⟩:Ix l.length)).size) true true (Nat.zero_le _) (Nat.le_refl _) (Or.inl rfl)).2
 have e1:=srtA_size l h0
 have e2:(Array.ofFn fun i:Fin l.length=>(⟨i.1,i.2⟩:Ix l.length)).size=l.length:=Array.size_ofFn
 unfold srtL
 rw[List.pairwise_map,List.pairwise_iff_getElem]
 intro i j hi hj hij
 rw[Array.length_toList]at hi hj
 have h1:=h i j (Nat.zero_le _) hij (by rw[e2,← e1];exact hj)
 have h1:ltOf (fun x y:Ix l.length=>cmpP (l.getD x.1 (0,0)).1 (l.getD y.1 (0,0)).1) (srtA l h0)[j]! (srtA l h0)[i]! = false:=h1
 rw[getElem!_pos (srtA l h0) j hj,getElem!_pos (srtA l h0) i hi]at h1
 have h2:=of_decide_eq_false h1
 simpa using h2
theorem srtL_get (l:List (Pol (Zp p) × Nat)) (h0:0<l.length) {i:Nat} (hi:i<l.length):∃ x:Ix l.length,(srtA l h0)[i]? = some x/\(srtL l h0).getD i (0,0)=l.getD x.1 (0,0):=by
 have hs:i<(srtA l h0).size:=by rw[srtA_size];exact hi
 refine⟨(srtA l h0)[i],Array.getElem?_eq_getElem hs,?_⟩
 unfold srtL
 rw[List.getD_eq_getElem?_getD,List.getElem?_map,Array.getElem?_toList,Array.getElem?_eq_getElem hs]
 rfl
def encC (cs:Array Value) (n:Nat) (x:Ix n):List Value:=[cs[x.1*2]!,cs[x.1*2+1]!]
set_option maxHeartbeats 4000000 in
theorem sort_m {l : List (Pol (Zp p) × Nat)} (h0 : 0 < l.length) (h1 : l.length ≤ 4096) (hl : ∀ c ∈ l, c.1.len ≤ 4096) {r : Bool} :
  FnM Tryz.prog r 62 (gb (fcB l)) [.c (.gs 0 0),.c (.fn 63)] (.c .any) (gb (fcB (srtL l h0))) []:=by
 letI:Inhabited (Ix l.length):=⟨⟨0,h0⟩⟩
 refine⟨by kernel_rfl,fun D w0 lc w vs hs hargs=>?_⟩
 match vs,hargs with
 | [v0,v1],⟨hv0,hv1,_⟩ =>
  obtain⟨lc',e1,_,hv0⟩:=hv0
  obtain rfl:lc=lc':=by cases e1;rfl
  have hat:=hs.at_ 0 lc (gb (fcB l)) rfl rfl (Nat.zero_le _)
  have hv0:v0=lc.v:=hv0 hat.1
  have hv1:v1 = .func (.func 63) #[] #[]:=hv1
  rcases hat.2 with⟨p1,_,_⟩ | ⟨b,cap,cs,p2,p3,p4,p5,p6,p7,p8,p9⟩
  ·have p1:l.length=0:=p1
   omega
  have p7:l.length≤cap:=p7
  have p6:cs.size=cap*2:=p6
  have p5:w.heap[b]? = some (.cells cs 55 (0,0)):=p5
  have hDb:Dof D [lc] [gb (fcB l)] b := .inr ⟨0,lc,_,rfl,rfl,rfl,p2⟩
  have hblk:b<w.heap.size:=heap_lt p5
  have cellb:∀ k,w.cell? ⟨b,k,none⟩=cs[k]? := fun k=>by simp only[World.cell?,p5];simp
  -- what a place holds
  have hcell:∀ i,i<l.length->∃(A:Option Addr) (c:Nat),cs[i*2]! = .slice A (l.getD i (0,0)).1.len c/\cs[i*2+1]! = .int .i64 ((l.getD i (0,0)).2:Nat)/\((0<(l.getD i (0,0)).1.len)->∃ b' o,A=some ⟨b',o,none⟩/\b'≠b/\b'<w.heap.size/\∀ k,k<(l.getD i (0,0)).1.len->w.cell? ⟨b',o+k,none⟩=some (.int .i64 ((l.getD i (0,0)).1.f k).v)):=fun i hi=>by
   obtain⟨u0,hu0,hr0⟩:=p9 i 0 hi (show 0<2 by decide)
   obtain⟨u1,hu1,hr1⟩:=p9 i 1 hi (show 1<2 by decide)
   have hu0:cs[i*2]? = some u0:=hu0
   have hu1:cs[i*2+1]? = some u1:=hu1
   obtain⟨A,c,a1,a2,a3⟩:=hr0
   refine⟨A,c,by rw[get!_some hu0];exact a1,by rw[get!_some hu1];exact hr1,fun hp=>?_⟩
   obtain⟨b',o,c1,c2,c3,c4⟩:=a3 hp
   refine⟨b',o,c1,fun e=>c3 (by rw[e];exact hDb),c2,fun k hk=>?_⟩
   obtain⟨u,c5,c6⟩:=c4 k 0 hk (by decide)
   have c6:u = .int .i64 ((l.getD i (0,0)).1.f k).v:=c6
   rw[← c6]
   have c5:w.cell? ⟨b',o+(k*1+0),none⟩=some u:=c5
   rwa [Nat.mul_one,Nat.add_zero]at c5
  let d:Array (Ix l.length):=Array.ofFn fun i:Fin l.length=>(⟨i.1,i.2⟩:Ix l.length)
  have ed:d.size=l.length:=Array.size_ofFn
  let q:Ix l.length->Pol (Zp p):=fun x=>(l.getD x.1 (0,0)).1
  have hlen:∀ x:Ix l.length,(q x).len≤4096:=fun x=>hl _ (by
   have:l.getD x.1 (0,0)=l[x.1]:=by rw[List.getD_eq_getElem?_getD,List.getElem?_eq_getElem x.2];rfl
   rw[this]
   exact List.getElem_mem x.2)
  have hone:∀ x:Ix l.length,∀ v∈encC cs l.length x,v.oneCell'=true:=fun x v hv=>by
   obtain⟨A,c,a1,a2,_⟩:=hcell x.1 x.2
   unfold encC at hv
   rw[a1,a2]at hv
   simp at hv
   rcases hv with rfl | rfl <;> rfl
  have hH:HoldsK (encC cs l.length) 2 w b 0 d:=fun j hj=>by
   rw[size_flatK,ed]at hj
   have hj2:j / 2<l.length:=by omega
   have hjd:j / 2<d.size:=by rw[ed];exact hj2
   refine⟨?_,by simp only[World.frozen?,p5];simp⟩
   rw[get_flatK _ _ _ _ (by rw[ed];exact hj),Nat.zero_add,cellb,getElem!_pos d (j / 2) hjd]
   have e:d[j / 2]'hjd=⟨j / 2,hj2⟩:=by simp[d]
   rw[e]
   have hjc:j<cs.size:=by omega
   have e3:cs[j]? = some cs[j]! := by rw[getElem!_pos cs j hjc];exact Array.getElem?_eq_getElem hjc
   rw[e3]
   show some cs[j]! = some ([cs[j / 2*2]!,cs[j / 2*2+1]!][j%2]!)
   rcases Nat.mod_two_eq_zero_or_one j with h | h
   ·rw[h,show j / 2*2=j by omega];rfl
   ·rw[h,show j / 2*2+1=j by omega];rfl
  have hcmp:CmpLays Tryz.prog 63 #[] (encC cs l.length) 2 (fun x y=>cmpP (q x) (q y)) b 0 d.size w:=fun m os dk _ x y=>by
   obtain⟨A,c,a1,a2,a3⟩:=hcell x.1 x.2
   obtain⟨A',c',b1,b2,b3⟩:=hcell y.1 y.2
   have keep:∀ {B' o:Nat} {v:Value},B'≠b->B'<w.heap.size->w.cell? ⟨B',o,none⟩=some v->(sortWorldK (encC cs l.length) 2 w b 0 m dk os).cell? ⟨B',o,none⟩=some v:=fun h2 h3 h4=>by
    unfold sortWorldK putRowK
    rw[cell?_grow _ _ _ (by rw[size_putRow];exact h3),cell?_putRow_other _ _ _ _ _ _ (.inl h2)]
    exact h4
   have:=factor_walk (q x).len (q y).len c c' (fun i=>((q x).f i).v) (fun i=>((q y).f i).v) A A' (.int .i64 ((l.getD x.1 (0,0)).2:Nat)) (.int .i64 ((l.getD y.1 (0,0)).2:Nat)) (sortWorldK (encC cs l.length) 2 w b 0 m dk os) (hlen x) (hlen y) (fun hp=>by
    obtain⟨B',o,c1,c2,c3,c4⟩:=a3 hp
    exact⟨B',o,c1,fun i hi=>keep c2 c3 (c4 i hi)⟩) (fun hp=>by
    obtain⟨B',o,c1,c2,c3,c4⟩:=b3 hp
    exact⟨B',o,c1,fun i hi=>keep c2 c3 (c4 i hi)⟩)
   have ex:encC cs l.length x=[.slice A (q x).len c,.int .i64 ((l.getD x.1 (0,0)).2:Nat)]:=by unfold encC;rw[a1,a2]
   have ey:encC cs l.length y=[.slice A' (q y).len c',.int .i64 ((l.getD y.1 (0,0)).2:Nat)]:=by unfold encC;rw[b1,b2]
   rw[ex,ey]
   exact this
  have eg:∀ args w,(callFunc 63 args).run Tryz.prog w = .ok (.enter 63 args) w:=enters_of Tryz.func63 (by kernel_rfl) rfl
  have hcon:=AnyQ.slices_SortFunc_eq sortF 2 Tryz.isAgg55 Tryz.sizeOf55 (encC cs l.length) (fun _=>rfl) hone (fun x y=>cmpP (q x) (q y)) (cmpP_swo q) 63 #[] b 0 cap d w eg hcmp hH hblk (by rw[ed];omega)
  have ev:v0 = .slice (some ⟨b,0,none⟩) d.size cap:=by rw[hv0,ed];exact p4
  rw[ev,hv1]
  refine hcon.mono ?_
  rintro e w' ⟨rfl,n,os,rfl⟩
  refine⟨_,lc,[],rfl,?_,LocsLe.refl _,trivial⟩
  show Sat D w0 r [lc] [gb (fcB (srtL l h0))] (grow (putRow id (Sort.ahead w n) b 0 (flatK (encC cs l.length) 2 (srtA l h0))) os)
  have hF:(flatK (encC cs l.length) 2 (srtA l h0)).size=l.length*2:=by rw[size_flatK,srtA_size]
  have hFg:∀ i j,i<l.length->j<2->∃ x:Ix l.length,(srtL l h0).getD i (0,0)=l.getD x.1 (0,0)/\(flatK (encC cs l.length) 2 (srtA l h0))[i*2+j]! = cs[x.1*2+j]! := fun i j hi hj=>by
   obtain⟨x,hx1,hx2⟩:=srtL_get l h0 hi
   refine⟨x,hx2,?_⟩
   rw[get_flatK _ _ _ _ (by rw[srtA_size];omega),show(i*2+j) / 2=i by omega,show(i*2+j)%2=j by omega,get!_some hx1]
   match j,hj with
   | 0,_=>rfl
   | 1,_=>rfl
  generalize flatK (encC cs l.length) 2 (srtA l h0)=F at *
  have hnoU:r=true->∀(i:Nat) (d:Int),cs[i]? ≠ some (.int .u32 d):=fun hr i d' e=>hs.noU hr b i d' hDb (by rw[cellb];exact e)
  have hcs':∀ k,(putCells id 0 F cs)[k]? = (cs[k]?).map fun x=>if 0≤k/\k<0+F.size then F[k-0]! else x:=fun k=>by
   unfold putCells
   rw[Array.getElem?_mapIdx]
   rfl
  have hup := hs.update (k := 0) (b := b) (l := lc) (B := gb (fcB l)) (cs := cs) (cs' := putCells id 0 F cs) (f' := fcs (srtL l h0)) (w' := putRow id (Sort.ahead w n) b 0 F) rfl rfl rfl p2 p5
   (by
    show(w.heap.modify b (onCells (putCells id 0 F)))[b]? = _
    rw[Array.getElem?_modify,if_pos rfl,p5]
    rfl)
   (by unfold putCells;exact Array.size_mapIdx)
   (fun x hx=>by
    show(w.heap.modify b (onCells (putCells id 0 F)))[x]? = _
    rw[Array.getElem?_modify,if_neg (fun e=>hx e.symm)])
   (by rw[size_putRow];rfl) rfl rfl rfl
   (fun i j hi hj=>by
    have hi:i<l.length:=hi
    have hj:j<2:=hj
    obtain⟨x,hx1,hx2⟩:=hFg i j hi hj
    obtain⟨u,hu,hr⟩:=p9 x.1 j x.2 hj
    have hu:cs[x.1*2+j]? = some u:=hu
    refine⟨u,?_,?_⟩
    ·show(putCells id 0 F cs)[i*2+j]? = some u
     have hk:i*2+j<cs.size:=by omega
     rw[hcs',Array.getElem?_eq_getElem hk]
     show some (if 0≤i*2+j/\i*2+j<0+F.size then F[i*2+j-0]! else _)=some u
     rw[if_pos ⟨Nat.zero_le _,by omega⟩,Nat.sub_zero,hx2,get!_some hu]
    ·have e:fcs (srtL l h0) i j=fcs l x.1 j:=by
      show([pc ((srtL l h0).getD i (0,0)).1,_]:List Cell).getD j .any=_
      rw[hx1]
     rw[e]
     exact hr)
   (fun hr k d' e=>by
    rw[hcs']at e
    cases hk:cs[k]? with
    | none=>rw[hk]at e;cases e
    | some x =>
     rw[hk]at e
     have e:(if 0≤k/\k<0+F.size then F[k-0]! else x) = .int .u32 d':=by simpa using e
     split at e
     ·rename_i h3
      obtain⟨y,_,hy⟩:=hFg (k / 2) (k%2) (by omega) (by omega)
      rw[Nat.sub_zero,show k=k / 2*2+k%2 by omega,hy]at e
      have hb2:y.1*2+k%2<cs.size:=by have:=y.2;omega
      rw[getElem!_pos cs _ hb2]at e
      exact hnoU hr (y.1*2+k%2) d' (by rw[Array.getElem?_eq_getElem hb2,e])
     ·exact hnoU hr k d' (by rw[hk,e]))
  have eB:gb (fcB (srtL l h0))={ gb (fcB l)with f:=fcs (srtL l h0) }:=by
   show Blk.mk _ _ (srtL l h0).length _ _ _=_
   rw[srtL_len]
  rw[eB]
  exact hup.1.ext ⟨rfl,rfl,rfl,by rw[size_grow];exact Nat.le_add_right _ _,fun k hk=>heap_grow_old _ os hk⟩
end
end Go.Proofs.YtibaocbpeaejkaaGreat
/- The program's fpoly.prepare. -/
namespace Go.Proofs.YtibaocbpeaejkaaGreat
open Go.RowKit
namespace Fp
set_option maxHeartbeats 4000000 in
theorem prepare_in {p:Int} {x f:L} (hp:md p) (hx:x.1≤4096) (ex:nfL p x=f) (h0:0<f.1) (h1:f.1≤65):FnOK Tryz.prog false 59 [.c (.int .i64 p),cl x] (.t2 (cl f) (.c (.int .i64 0))):=by
 have hN:=normal_L (x:=x) hp hx
 have hle:=nfL_le p x
 rw[ex]at hN hle
 refine fn_ok (E:=E0) E0_ok Tryz.func59 rfl mixed (by kernel_rfl) (by kernel_rfl) ?_
 conv=>whnf
 refine⟨_,modulus_ok hp,?_⟩
 conv=>whnf
 refine⟨_,hN,?_⟩
 conv=>whnf
 refine bneg (show decide ((f.1:Int)=0)=false by simp;omega) ?_
 conv=>whnf
 refine⟨i64 (by omega) (by omega),?_⟩
 conv=>whnf
 refine bneg (show decide ((64:Int)<(f.1:Int)-1)=false by simp;omega) ?_
 conv=>whnf
 exact⟨rfl,Sub.refl _⟩
end Fp
end Go.Proofs.YtibaocbpeaejkaaGreat
/- slices.SortFunc at an empty list; the program's Factor. -/
namespace Go.Proofs.YtibaocbpeaejkaaGreat
open Go.RowKit Go.Sort
theorem len_zero:FnOK Tryz.prog false 81 [.c (.int .u64 0)] (.c (.int .i64 0)):=by
 refine⟨by kernel_rfl,fun D w vs _ _ hargs=>?_⟩
 match vs,hargs with
 | [v0],⟨e0,_⟩ =>
  obtain rfl:v0 = .int .u64 0:=e0
  have h:=Any.bits_Len (SlLaysF0.n15.bits (P:=Tryz.prog) (ρ:=sortF_ren) { sortF with }) (0:Int) w (by decide) (by decide)
  refine h.mono ?_
  rintro e w' ⟨rfl,rfl⟩
  exact⟨_,rfl,rfl,Below.refl _ _⟩
set_option maxHeartbeats 4000000 in
theorem insert_zero {f:Nat->Nat->Cell} {g:Cell} (_:g.clos=true):FnOK Tryz.prog false 135 [.c (.row 2 0 f),.c (.int .i64 0),.c (.int .i64 0),.c g] (.c .any):=by
 refine fn_ok (E:=E0) E0_ok Tryz.func135 rfl mixed (by kernel_rfl) (by kernel_rfl) ?_
 conv=>whnf
 refine⟨Fp.i64 (by decide) (by decide),?_⟩
 conv=>whnf
 refine loop_unroll 1 ?_
 conv=>whnf
 exact⟨rfl,fun _ _ _ _=>trivial⟩
set_option maxHeartbeats 4000000 in
theorem pdq_zero {f:Nat->Nat->Cell} {F:FuncId}:FnOK Tryz.prog false 109 [.c (.row 2 0 f),.c (.int .i64 0),.c (.int .i64 0),.c (.int .i64 0),.c (.fn F)] (.c .any):=by
 have k:=insert_zero (f:=f) (g := .fn F) rfl
 refine fn_ok (E:=E0) E0_ok Tryz.func109 rfl mixed (by kernel_rfl) (by kernel_rfl) ?_
 conv=>whnf
 refine loop_unroll 1 ?_
 conv=>whnf
 refine⟨Fp.i64 (by decide) (by decide),?_⟩
 conv=>whnf
 refine⟨_,k,?_⟩
 conv=>whnf
 exact⟨rfl,fun _ _ _ _=>trivial⟩
set_option maxHeartbeats 4000000 in
theorem sort_zero {f:Nat->Nat->Cell} {F:FuncId}:FnOK Tryz.prog false 62 [.c (.row 2 0 f),.c (.fn F)] (.c .any):=by
 have k:=pdq_zero (f:=f) (F:=F)
 have k2:FnOK Tryz.prog false 81 [.c (.int .u64 (IntKind.u64.wrap ((0:Nat):Int)))] (.c (.int .i64 0)):=len_zero
 refine fn_ok (E:=E0) E0_ok Tryz.func62 rfl mixed (by kernel_rfl) (by kernel_rfl) ?_
 conv=>whnf
 refine⟨_,k2,?_⟩
 conv=>whnf
 refine⟨_,k,?_⟩
 conv=>whnf
 exact⟨rfl,fun _ _ _ _=>trivial⟩
theorem sub_int {a b:Int} (h:a=b):Sub (.c (.int .i64 a)) (.c (.int .i64 b)):=by rw[h];exact Sub.refl _
section
variable {p:Int} [hp:Prm p]
set_option maxHeartbeats 8000000 in
theorem Factor_walk {x : Fp.L} {f m : Pol (Zp p)} {l : List (Pol (Zp p) × Nat)} {L : List (Pol (Zp p) × Nat)} (hf : 0 < f.len) (hfl : f.len ≤ 65)
  (k0:FnOK Tryz.prog true 59 [.c (.int .i64 p),Fp.cl x] (.t2 (pl f) (.c (.int .i64 0))))
  (k1:FnOK Tryz.prog true 61 [.c (.int .i64 p),pl f] (pl m))
  (k2:FnM Tryz.prog true 60 phB [.c (.int .i64 p),pl m,.c (.int .i64 1)] (.c (.gs 1 0)) phB [gb (fcB l)])
  (k3:FnM Tryz.prog true 62 (gb (fcB l)) [.c (.gs 0 0),.c (.fn 63)] (.c .any) (gb (fcB L)) []) :
  FnOK Tryz.prog true 22 [.c (.int .i64 p),Fp.cl x] (.t3 (.c (.int .i64 (f.lead).v)) (.c (.row 2 L.length (fcs L))) (.c (.int .i64 0))):=by
 have hL:(ofP f).1=f.len:=rfl
 have he:(ofP f).2 (((ofP f).1:Int)-1).toNat=f.lead.v:=by
  rw[show(((ofP f).1:Int)-1).toNat=f.len-1 by omega]
  rfl
 refine fn_ok (E:=E1) E1_ok Tryz.func22 rfl mixed (by kernel_rfl) (by kernel_rfl) ?_
 conv=>whnf
 refine⟨_,k0,?_⟩
 conv=>whnf
 refine⟨_,k1,?_⟩
 conv=>whnf
 refine .inl ⟨[],true,?_⟩
 conv=>whnf
 refine⟨0,phB,[.c (.int .i64 p),pl m,.c (.int .i64 1)],_,_,_,k2,rfl,.inr (Nat.le_refl 2),fun h=>absurd h (by decide),fun h=>absurd h (by decide),fun F' hF'=>?_,rfl,rfl,?_⟩
 ·simp at hF';subst hF';exact fun _ i j _ hj=>fcs_clos l (i:=i) hj
 conv=>whnf
 refine .inl ⟨[],false,?_⟩
 conv=>whnf
 refine⟨1,_,[.c (.gs 0 0),.c (.fn 63)],_,_,_,k3,rfl,.inl rfl,fun _ i j _ hj=>fcs_clos l (i:=i) hj,fun _ i j _ hj=>fcs_clos L (i:=i) hj,fun F hF=>absurd hF List.not_mem_nil,rfl,rfl,?_⟩
 conv=>whnf
 refine⟨Fp.i64 (by omega) (by omega),?_⟩
 conv=>whnf
 refine⟨by omega,by show((ofP f).1:Int)-1<((ofP f).1:Int);omega,?_⟩
 conv=>whnf
 refine⟨fun i j _ hj=>fcs_clos L (i:=i) hj,?_⟩
 conv=>whnf
 exact⟨rfl,subT3 (sub_int he) (Sub.refl _) (Sub.refl _)⟩
set_option maxHeartbeats 8000000 in
theorem Factor_walk0 {x : Fp.L} {f m : Pol (Zp p)} (hf : 0 < f.len) (hfl : f.len ≤ 65)
  (k0:FnOK Tryz.prog true 59 [.c (.int .i64 p),Fp.cl x] (.t2 (pl f) (.c (.int .i64 0))))
  (k1:FnOK Tryz.prog true 61 [.c (.int .i64 p),pl f] (pl m))
  (k2:FnOK Tryz.prog true 60 [.c (.int .i64 p),pl m,.c (.int .i64 1)] (.c (.row 2 0 (fcs ([]:List (Pol (Zp p) × Nat)))))) :
  FnOK Tryz.prog true 22 [.c (.int .i64 p),Fp.cl x] (.t3 (.c (.int .i64 (f.lead).v)) (.c (.row 2 0 (fcs ([]:List (Pol (Zp p) × Nat))))) (.c (.int .i64 0))):=by
 have hL:(ofP f).1=f.len:=rfl
 have k3:=(sort_zero (f:=fcs ([]:List (Pol (Zp p) × Nat))) (F:=63)).weak (r:=true)
 have he:(ofP f).2 (((ofP f).1:Int)-1).toNat=f.lead.v:=by
  rw[show(((ofP f).1:Int)-1).toNat=f.len-1 by omega]
  rfl
 refine fn_ok (E:=E1) E1_ok Tryz.func22 rfl mixed (by kernel_rfl) (by kernel_rfl) ?_
 conv=>whnf
 refine⟨_,k0,?_⟩
 conv=>whnf
 refine⟨_,k1,?_⟩
 conv=>whnf
 refine .inr ?_
 conv=>whnf
 refine⟨_,k2,?_⟩
 conv=>whnf
 refine .inr ?_
 conv=>whnf
 refine⟨_,k3,?_⟩
 conv=>whnf
 refine⟨Fp.i64 (by omega) (by omega),?_⟩
 conv=>whnf
 refine⟨by omega,by show((ofP f).1:Int)-1<((ofP f).1:Int);omega,?_⟩
 conv=>whnf
 exact⟨rfl,subT3 (sub_int he) (Sub.refl _) (Sub.refl _)⟩
theorem FacL.perm {f:Pol (Zp p)} {t:Nat} {l l':List (Pol (Zp p) × Nat)} (h:FacL f t l) (hp:l'.Perm l):FacL f t l' :=
 ⟨fun c hc=>h.all c (hp.mem_iff.1 hc),fun P a b c=>hp.mem_iff.2 (h.mem P a b c),(hp.pairwise_iff fun h e=>h e.symm).2 h.nd⟩
theorem FacL.assoc {f m:Pol (Zp p)} {t:Nat} {l:List (Pol (Zp p) × Nat)} (h:FacL m t l) (h0:f≠0) (m0:m≠0) (h1:Pol.Dvs m f) (h2:Pol.Dvs f m):FacL f t l:=by
 have hv:∀ P,Pol.Irr P->val P m=val P f:=fun P hP=>Nat.le_antisymm (val_le hP h0 h1) (val_le hP m0 h2)
 refine⟨fun c hc=>?_,fun P a b c=>?_,h.nd⟩
 ·obtain⟨a1,a2,a3,a4⟩:=h.all c hc
  exact⟨a1,a2,a3.trans h1,by rw[a4,hv _ a1]⟩
 ·have:=h.mem P a b (c.trans h2)
  rwa [hv P a]at this
structure FacS (f : Pol (Zp p)) (L : List (Pol (Zp p) × Nat)) : Prop where
 f:FacL f 1 L
 s:L.Pairwise fun a b=>cmpP a.1 b.1<0
theorem pairwise_and {α:Type} {R S:α->α->Prop} {l:List α} (h:l.Pairwise R) (k:l.Pairwise S):l.Pairwise fun a b=>R a b/\S a b:=by
 induction l with
 | nil=>exact List.Pairwise.nil
 | cons a l ih =>
  rw[List.pairwise_cons]at h k ⊢
  exact⟨fun b hb=>⟨h.1 b hb,k.1 b hb⟩,ih h.2 k.2⟩
theorem Factor_P (hm:Fp.md p) {x:Fp.L} {f:Pol (Zp p)} (hx:x.1≤4096) (ex:Fp.nfL p x=ofP f) (h0:f≠0) (hl:f.len≤65):∃ L,FacS f L/\L.length≤64/\FnOK Tryz.prog true 22 [.c (.int .i64 p),Fp.cl x] (.t3 (.c (.int .i64 (f.lead).v)) (.c (.row 2 L.length (fcs L))) (.c (.int .i64 0))):=by
 have hp0:=Pol.len_pos h0
 have k0:=(Fp.prepare_in hm hx ex (show 0<f.len from hp0) (show f.len≤65 from hl)).weak (r:=true)
 obtain⟨m,e1,e2,e3,e4,e5⟩:=mo_of hm h0 (by omega)
 have m0:m≠0:=Pol.ne_of_len (by omega)
 have k1:FnOK Tryz.prog true 61 [.c (.int .i64 p),pl f] (pl m):=by
  have:=(Fp.monic_L hm (ofP_NL f (by omega))).weak (r:=true)
  rw[e1]at this
  exact this
 obtain⟨l,l1,l2,l3⟩:=fac_P hm m.len (f:=m) (t:=1) (Nat.le_refl _) m0 e2 (by omega) (by omega)
 have l4:=l1.assoc h0 m0 e3 e4
 by_cases hl0:l.length=0
 ·obtain rfl:l=[]:=List.length_eq_zero_iff.1 hl0
  exact⟨[],⟨l4,List.Pairwise.nil⟩,Nat.zero_le _,Factor_walk0 hp0 hl k0 k1 (l3.shut (fun i j _ hj=>fcs_clos [] (i:=i) hj) rfl)⟩
 ·have hl1:0<l.length:=by omega
  have ks:=sort_m (l:=l) hl1 (by omega) (fun c hc=>by
   have:=(l4.all c hc).2.2.1.len h0
   omega) (r:=true)
  have hperm:=srtL_perm l hl1
  have l5:=l4.perm hperm
  refine⟨srtL l hl1,⟨l5,?_⟩,by rw[srtL_len];omega,Factor_walk hp0 hl k0 k1 l3 ks⟩
  refine(pairwise_and (srtL_sorted l hl1) l5.nd).imp fun {a b} h=>?_
  have h1:cmpP b.1 a.1 = -cmpP a.1 b.1:=cmpV_neg _ _ _ _
  have h2:cmpP a.1 b.1≠0:=fun e=>h.2 (cmpP_zero e)
  have h3:=h.1
  omega
end
end Go.Proofs.YtibaocbpeaejkaaGreat
/- Factorizations are the only ones. -/
namespace Go.Proofs.YtibaocbpeaejkaaGreat
open Go.RowKit
theorem md_prm {p:Int} (hm:Fp.md p):Prm p:=prm_of hm
section
variable {p:Int} [hp:Prm p]
theorem FacL.deg {f:Pol (Zp p)} {l:List (Pol (Zp p) × Nat)} (h:FacL f 1 l) (h0:f≠0):f.len=(l.foldr (fun c s=>c.2*(c.1.len-1)+s) 0)+1:=by
 obtain⟨M,lM,mM,g1,g2⟩:=monic_of h0
 have m0:M≠0:=Pol.ne_of_len (by have:=Pol.len_pos h0;omega)
 have hM:=(h.assoc m0 h0 g2 g1).prod m0 mM
 rw[← lM,hM]
 exact prL_len fun c hc=>(h.all c hc).1.ne
end
end Go.Proofs.YtibaocbpeaejkaaGreat
/- What is read as data, in abstract words; the last step of a law's row. -/
namespace Go.Proofs.YtibaocbpeaejkaaGreat
open Go.ChangeShapes Go.WideShapes Go.ChangeAt Go.RowKit
theorem lawOwn:ownKnob Tryz.prog.godebug=none:=by kernel_rfl
theorem lawLaid:laidOutB Tryz.prog=true:=by kernel_rfl
section
variable {H:Type} {enc:TypeId × Value->H} {P:Program}
theorem post_below {f : Func} {s : ChangeSpec} {apart fresh handsOn again : Bool} {W W' : World} {args : Array Value} {v : Value} {ds gs : List (DataW H)} {before pa pv : List MemPlace}
  (hW:DataW.Whole enc P f.params.toList s.vars apart W args.toList ds gs before)
  (hres:∀(b:Nat) (sp:Nat->Bool) (hd:Bool),DataW.TrodAll enc P W' b sp hd f.resultTypes.toList (v.resultList f.resultTypes.size) (s.fn H (ds++gs)).results [])
  (hargs:∀ sp:Nat->Bool,(∀ p∈before,sp p.block=true)->DataW.TrodAll enc P W' 0 sp true f.params.toList args.toList (s.fn H (ds++gs)).args pa)
  (hvars:∀ sp:Nat->Bool,(∀ p∈before,sp p.block=true)->DataW.TrodVars enc P W' sp s.vars (s.fn H (ds++gs)).vars pv)
  (hps:before=pa++pv) (hb:Below W.heap.size W W')
  (hok:∀(j:Nat) (t:TypeId) (r:Value),f.resultTypes[j]? = some t->(v.resultList f.resultTypes.size)[j]? = some r->Value.okWide P W' .any 0 t r) :
  s.post enc P f apart fresh handsOn again W args v W':=by
 have hlt:∀ p∈before,p.block<W.heap.size:=fun p hp=>hW.lt p hp
 have hold:∀ p∈before,(fun b=>decide (b<W.heap.size)) p.block=true:=fun p hp=>by simpa using hlt p hp
 refine⟨ds,gs,before,[],pa,pv,hW,hres _ _ _,hargs _ hold,hvars _ hold,World.keptBut_mono (fun p hp=>⟨hp,?_⟩) (hb.frame (·∈before)),fun _=>?_⟩
 ·rw[hps,List.mem_append]at hp
  exact Or.inr hp
 ·obtain⟨_,_,_,_,_,hz,hn⟩:=hW
  refine⟨hok,_,_,([]++pa)++pv,⟨[]++pa,pv,trodAll_append (hargs _ (fun _ _=>rfl)) (hres _ _ _),hvars _ (fun _ _=>rfl),rfl,?_,?_⟩,?_⟩
  ·intro b off hp
   have hin:MemPlace.cell b off∈before:=by rw[hps];simpa using hp
   rw[hb.frozen (hlt _ hin)]
   exact hz b off hin
  ·intro ha
   have:=hn ha
   rw[hps]at this
   simpa using this
  ·intro p hp _
   rw[hps]
   simpa using hp
theorem Below.trodS {t : TypeId} (hl : laidOutB P = true) (hr : P.readableRec t = true) (hrow : t < P.types.size) {W W' : World} {sp : Nat → Bool} {v : Value} {d : DataW H} {ps : List MemPlace}
  (h:DataW.Trod enc P W 0 (fun _=>true) true t v d ps) (hb:Below W.heap.size W W') (hlt:∀ x∈ps,x.block<W.heap.size) (hs:∀ x∈ps,sp x.block=true) :
  DataW.Trod enc P W' 0 sp true t v d ps :=
 WideElems.Trod_stays hl hr hrow h (fun x hx=>hb.same (hlt x hx)) hs
end
section
variable {H:Type} {enc:TypeId × Value->H} {P:Program} {w:World} {sp:Nat->Bool} {held:Bool}
theorem cell_int {t fuel:Nat} {k:IntKind} {cs:List Value} {x:DataW H × List MemPlace} (ht:P.underlying t=some (.int k)) (h:DataW.trod enc P w 0 sp held fuel t cs=some x):∃ n,cs=[.int k n]/\(Lit.int k n).wf=true:=by
 obtain⟨n,h1,_,h2⟩:=DataW.trod_int ht h
 exact⟨n,h1,h2⟩
end
theorem law_call {r:Bool} {f:FuncId} {al:List V} (h:FnOK Tryz.prog r f al (.c (.bool true))) {w:World} {vs:List Value} (hv:VRels (fun _=>False) w [] al vs):Calls Tryz.prog f vs.toArray w fun e w'=>e = .returned (.bool true)/\Below w.heap.size w w' :=
 (h.2 (fun _=>False) w vs (fun b hb=>hb.elim) (fun _ b o d hb=>hb.elim) hv).mono fun _ _ ⟨v,he,hv,hb⟩=>⟨by rw[he,show v = .bool true from hv],hb⟩
end Go.Proofs.YtibaocbpeaejkaaGreat
/- The argument of the statements about polynomials modulo a prime, opened. -/
namespace Go.Proofs.YtibaocbpeaejkaaGreat
open Go.ChangeShapes Go.WideShapes Go.ChangeAt Go.RowKit
namespace Fp
end Fp
section
variable {H:Type} {enc:TypeId × Value->H} {P:Program} {w:World} {sp:Nat->Bool} {held:Bool}
end
end Go.Proofs.YtibaocbpeaejkaaGreat
/- The law FpolyUnique, as a contract. -/
namespace Go.Proofs.YtibaocbpeaejkaaGreat
open Go.RowKit
section
variable {p:Int} [hp:Prm p]
end
end Go.Proofs.YtibaocbpeaejkaaGreat
/- Plain laws of fractions: the fraction of two integers, its numerator and denominator, sums, products, quotients, signs. -/
namespace Go.Proofs.YtibaocbpeaejkaaGreat
def ratio (n d:Int):Rat:=(n:Rat) / (d:Rat)
end Go.Proofs.YtibaocbpeaejkaaGreat
/- Fractions as abstract values, and package rational in those words. -/
namespace Go.Proofs.YtibaocbpeaejkaaGreat
open Go.RowKit
structure RawR where
 num:RawZ
 den:RawZ
def RawR.val (q:RawR):Rat:=ratio q.num.val q.den.val
def rr (q:RawR):List Cell:=[.bool q.num.neg,dsC q.num.ds,.bool q.den.neg,dsC q.den.ds]
def ofR (x:Rat):RawR:=⟨ofZ x.num,ofZ x.den⟩
abbrev nq (x:Rat):List Cell:=rr (ofR x)
structure RawR.Fit (q : RawR) (L : Nat) : Prop where
 num:Dg.ok q.num.ds
 den:Dg.ok q.den.ds
 numL:q.num.ds.length≤L
 denL:q.den.ds.length≤L
end Go.Proofs.YtibaocbpeaejkaaGreat
/- Package rational in abstract words: the operations. -/
namespace Go.Proofs.YtibaocbpeaejkaaGreat
open Go.RowKit
end Go.Proofs.YtibaocbpeaejkaaGreat
/- The document's fractions. -/
namespace Go.Proofs.YtibaocbpeaejkaaGreat
open Go.RowKit
namespace Rf
end Rf
end Go.Proofs.YtibaocbpeaejkaaGreat
/- Lists of large integers, raw and normalized, and the document's functions of layer 5 that a field's form asks for. -/
namespace Go.Proofs.YtibaocbpeaejkaaGreat
open Go.RowKit
abbrev zlF (c:Nat->RawZ) (i j:Nat):Cell:=(zr (c i)).getD j .any
abbrev zl (n:Nat) (c:Nat->RawZ):Cell := .row 2 n (zlF c)
abbrev nl (n:Nat) (v:Nat->Int):Cell:=zl n fun i=>ofZ (v i)
def tl (a : Nat → Int) : Nat → Nat
 | 0=>0
 | n+1=>if a n=0 then tl a n else n+1
namespace Rf
def wl (n:Nat) (c:Nat->RawZ):Prop:=n≤1048576/\∀ i,i<n->wr (c i)
abbrev gz (n:Nat) (v:Nat->Int):Gx:=⟨30,2,n,zlF fun i=>ofZ (v i)⟩
theorem app_same {α:Type} (g:Nat->α) (i j:Nat):(if j=i then g i else g j)=g j:=by
 by_cases e:j=i
 ·rw[if_pos e,e]
 ·rw[if_neg e]
def co (v:Nat->Int) (n:Nat) (i:Int):Int:=if 0≤i/\i<n then v i.toNat else 0
abbrev ldc (n:Nat) (v:Nat->Int):Int:=co v n ((tl v n:Nat)-1)
def formed (n:Nat) (v:Nat->Int):Prop:=2≤tl v n/\tl v n≤13/\ldc n v=1
instance (n:Nat) (v:Nat->Int):Decidable (formed n v):=by unfold formed;infer_instance
end Rf
end Go.Proofs.YtibaocbpeaejkaaGreat
/- The document's powers and orders modulo n. -/
namespace Go.Proofs.YtibaocbpeaejkaaGreat
open Go.RowKit
namespace Spl
theorem tdiv2 (k:Nat):Int.tdiv (k:Int) 2=((k / 2:Nat):Int):=by
 rw[Int.tdiv_eq_ediv_of_nonneg (by omega)];omega
theorem tmod2 (k:Nat):Int.tmod (k:Int) 2=((k%2:Nat):Int):=by
 rw[Int.tmod_eq_emod_of_nonneg (by omega)];omega
theorem tmodm (a b m:Nat):Int.tmod ((a:Int)*(b:Int)) (m:Int)=((a*b%m:Nat):Int):=by
 rw[Int.tmod_eq_emod_of_nonneg (Int.mul_nonneg (by omega) (by omega)),Int.natCast_emod,Int.natCast_mul]
theorem pow_step {k o x m T:Nat} (h:o*x^k%m=T):(if k%2=1 then o*x%m else o)*(x*x%m)^(k / 2)%m=T:=by
 have e:x^k=(x*x)^(k / 2)*x^(k%2):=by
  rw[← Nat.pow_two,← Nat.pow_mul,← Nat.pow_add,Nat.div_add_mod]
 rw[← h,e]
 have e2:∀ c:Nat,c*(x*x%m)^(k / 2)%m=c*(x*x)^(k / 2)%m:=fun c=>by
  rw[Nat.mul_mod,← Nat.pow_mod,← Nat.mul_mod]
 rw[e2]
 split
 ·next h1 =>
  rw[h1,Nat.pow_one,Nat.mod_mul_mod]
  congr 1
  rw[Nat.mul_assoc,Nat.mul_comm x]
 ·next h1 =>
  rw[show k%2=0 by omega,Nat.pow_zero,Nat.mul_one]
set_option maxHeartbeats 4000000 in
theorem rpower_ok {a:Int} {l m:Nat} (hm:1≤m) (hm2:m≤65521) (hl:l≤1000000):FnOK Tryz.prog false 58 [.c (.int .i64 a),.c (.int .i64 (l:Nat)),.c (.int .i64 (m:Nat))] (.c (.int .i64 (((a%m).toNat^l%m:Nat):Int))):=by
 have hM:=Fp.refMod_ok (a:=a) (p:=m) (by omega) (by omega)
 have hr1:=Int.emod_nonneg a (show(m:Int)≠0 by omega)
 have hr2:=Int.emod_lt_of_pos a (show(0:Int)<m by omega)
 have hb:(a%m)=(((a%m).toNat:Nat):Int):=(Int.toNat_of_nonneg hr1).symm
 generalize (a%m).toNat=b at *
 rw[hb]at hM
 have h1m:Int.tmod 1 (m:Int)=((1%m:Nat):Int):=by
  rw[Int.tmod_eq_emod_of_nonneg (by omega),Int.natCast_emod];rfl
 refine fn_ok (E:=E0) E0_ok Tryz.func58 rfl mixed (by kernel_rfl) (by kernel_rfl) ?_
 conv=>whnf
 refine⟨by omega,?_⟩
 conv=>whnf
 refine⟨_,hM,?_⟩
 conv=>whnf
 refine loop_ints (fun((k,o,x):Nat × Nat × Nat)=>gst [(1,.c (.int .i64 (k:Nat))),(2,.c (.int .i64 (m:Nat))),(7,.c (.int .i64 (o:Nat))),(8,.c (.int .i64 (x:Nat)))] []) (fun(k,_,_)=>k) (fun(k,o,x)=>o<m/\x<m/\k≤l/\o*x^k%m=b^l%m) (l,1%m,b) rfl ?_ ?_ ?_
 ·exact Weak.gen [] rfl trivial ⟨⟨_,rfl,rfl⟩,⟨_,rfl,rfl⟩,⟨_,rfl,h1m.symm⟩,⟨_,rfl,rfl⟩,trivial⟩
 ·exact⟨Nat.mod_lt _ hm,by omega,Nat.le_refl _,by rw[Nat.mul_mod,Nat.mod_mod,← Nat.mul_mod,Nat.one_mul]⟩
 rintro ⟨k,o,x⟩ ⟨h1,h2,h3,h4⟩
 have h4:o*x^k%m=b^l%m:=h4
 have h1:o<m:=h1
 have h2:x<m:=h2
 have h3:k≤l:=h3
 have p1:=pow_step h4
 have p2:o*x<65521*65521:=Nat.mul_lt_mul'' (by omega) (by omega)
 have p3:x*x<65521*65521:=Nat.mul_lt_mul'' (by omega) (by omega)
 have p4:=Nat.mod_lt (o*x) hm
 have p5:=Nat.mod_lt (x*x) hm
 have t1:=tmodm o x m
 have t2:=tmodm x x m
 have t3:=tdiv2 k
 have t4:=tmod2 k
 have q1:((o*x:Nat):Int)=(o:Int)*(x:Int):=Int.natCast_mul _ _
 have q2:((x*x:Nat):Int)=(x:Int)*(x:Int):=Int.natCast_mul _ _
 have b1 : -9223372036854775808≤(o:Int)*(x:Int):=by omega
 have b2:(o:Int)*(x:Int)<9223372036854775808:=by omega
 have b3 : -9223372036854775808≤(x:Int)*(x:Int):=by omega
 have b4:(x:Int)*(x:Int)<9223372036854775808:=by omega
 conv=>whnf
 refine bcase (fun(h:decide ((0:Int)<k)=true)=>?_) fun(h:decide ((0:Int)<k)=false)=>?_
 ·have h:=of_decide_eq_true h
  conv=>whnf
  refine⟨by decide,?_⟩
  conv=>whnf
  refine bcase (fun(hk:decide (Int.tmod (k:Int) 2=1)=true)=>?_) fun(hk:decide (Int.tmod (k:Int) 2=1)=false)=>?_
  ·have hk:=of_decide_eq_true hk
   rw[if_pos (by omega)]at p1
   conv=>whnf
   refine⟨Fp.i64 b1 b2,?_⟩
   conv=>whnf
   refine⟨by omega,?_⟩
   conv=>whnf
   refine⟨Fp.i64 b3 b4,?_⟩
   conv=>whnf
   refine⟨by omega,?_⟩
   conv=>whnf
   refine⟨by decide,Fp.i64 (by omega) (by omega),?_⟩
   conv=>whnf
   exact⟨(k / 2,o*x%m,x*x%m),by show k / 2<k;omega,Weak.gen [] rfl trivial ⟨⟨_,rfl,t3.symm⟩,⟨_,rfl,rfl⟩,⟨_,rfl,t1.symm⟩,⟨_,rfl,t2.symm⟩,trivial⟩,⟨p4,p5,by show k / 2≤l;omega,p1⟩⟩
  ·have hk:=of_decide_eq_false hk
   rw[if_neg (by omega)]at p1
   conv=>whnf
   refine⟨Fp.i64 b3 b4,?_⟩
   conv=>whnf
   refine⟨by omega,?_⟩
   conv=>whnf
   refine⟨by decide,Fp.i64 (by omega) (by omega),?_⟩
   conv=>whnf
   exact⟨(k / 2,o,x*x%m),by show k / 2<k;omega,Weak.gen [] rfl trivial ⟨⟨_,rfl,t3.symm⟩,⟨_,rfl,rfl⟩,⟨_,rfl,rfl⟩,⟨_,rfl,t2.symm⟩,trivial⟩,⟨h1,p5,by show k / 2≤l;omega,p1⟩⟩
 ·have h:=of_decide_eq_false h
  obtain rfl:k=0:=by omega
  rw[Nat.pow_zero,Nat.mul_one,Nat.mod_eq_of_lt h1]at h4
  conv=>whnf
  exact⟨rfl,Fp.subI (by rw[h4])⟩
set_option maxHeartbeats 4000000 in
theorem order_ok {p u:Int} {n ph j c:Nat} {d:Nat->Nat} (hn:1≤n) (hn2:n≤65521) (k1:FnOK Tryz.prog false 57 [.c (.int .i64 p),.c (.int .i64 (n:Nat))] (.t2 (.c (.int .i64 u)) (.c (.int .i64 0)))) (k2:FnOK Tryz.prog false 24 [.c (.int .i64 (n:Nat))] (.c (.int .i64 (ph:Nat)))) (k3:FnOK Tryz.prog false 13 [.c (.int .i64 (ph:Nat))] (.c (.row 1 c fun i _ => .int .i64 (d i:Nat)))) (hc:c≤1000) (hd:∀ i,i<c->d i≤1000000) (hj:j<c) (h1:(p%n).toNat^d j%n=1%n) (h0:∀ i,i<j->(p%n).toNat^d i%n≠1%n):FnOK Tryz.prog false 21 [.c (.int .i64 p),.c (.int .i64 (n:Nat))] (.t2 (.c (.int .i64 (d j:Nat))) (.c (.int .i64 0))):=by
 have kp:=fun i (hi:i<c)=>rpower_ok (a:=p) (l:=d i) hn hn2 (hd i hi)
 have h1m:Int.tmod 1 (n:Int)=((1%n:Nat):Int):=by
  rw[Int.tmod_eq_emod_of_nonneg (by omega),Int.natCast_emod];rfl
 refine fn_ok (E:=E0) E0_ok Tryz.func21 rfl mixed (by kernel_rfl) (by kernel_rfl) ?_
 conv=>whnf
 refine⟨_,k1,?_⟩
 conv=>whnf
 refine⟨_,k2,?_⟩
 conv=>whnf
 refine⟨_,k3,?_⟩
 conv=>whnf
 refine loop_ints (fun i:Nat=>gst [(0,.c (.int .i64 p)),(1,.c (.int .i64 (n:Nat))),(8,.c (.row 1 c fun i _ => .int .i64 (d i:Nat))),(9,.c (.int .i64 (i:Nat)))] []) (fun i=>j-i) (fun i=>i≤j) 0 rfl ?_ (Nat.zero_le _) fun i hi=>?_
 ·exact Weak.gen [] rfl trivial ⟨⟨_,rfl,rfl⟩,⟨_,rfl,rfl⟩,.inl ⟨_,_,rfl,rfl,fun _ _ _ _=>rfl⟩,⟨_,rfl,rfl⟩,trivial⟩
 have hi:i≤j:=hi
 have kp:=kp i (by omega)
 have h0:=h0 i
 conv=>whnf
 refine bpos (show decide ((i:Int)<(c:Int))=true from decide_eq_true (by omega)) ?_
 conv=>whnf
 refine⟨by omega,by show(i:Int)<(c:Int);omega,?_⟩
 conv=>whnf
 refine⟨_,kp,?_⟩
 conv=>whnf
 refine⟨by omega,?_⟩
 conv=>whnf
 refine bcase (fun(h:decide ((((p%n).toNat^d i%n:Nat):Int)=Int.tmod 1 (n:Int))=true)=>?_) fun(h:decide ((((p%n).toNat^d i%n:Nat):Int)=Int.tmod 1 (n:Int))=false)=>?_
 ·have h:=of_decide_eq_true h
  rw[h1m]at h
  have e:i=j:=by
   rcases Nat.lt_or_ge i j with h2 | h2
   ·exact absurd (Int.natCast_inj.1 h) (h0 h2)
   ·omega
  conv=>whnf
  refine⟨by omega,by show(i:Int)<(c:Int);omega,?_⟩
  conv=>whnf
  exact⟨rfl,by rw[e];exact Sub.refl _⟩
 ·have h:=of_decide_eq_false h
  rw[h1m]at h
  have e:i≠j:=fun e=>h (by rw[e,h1])
  conv=>whnf
  refine⟨Fp.i64 (by omega) (by omega),?_⟩
  conv=>whnf
  exact⟨i+1,by show j-(i+1)<j-i;omega,Weak.gen [] rfl trivial ⟨⟨_,rfl,rfl⟩,⟨_,rfl,rfl⟩,.inl ⟨_,_,rfl,rfl,fun _ _ _ _=>rfl⟩,⟨_,rfl,rfl⟩,trivial⟩,by show i+1≤j;omega⟩
theorem inv_one {a m g u v:Int} (h:Fp.Eu a m g 0 u v) (hc:Int.gcd a m=1):g=1:=by
 obtain⟨h1,h2⟩:=h.com g (Int.dvd_refl g) (Int.dvd_zero g)
 have h3:=Int.dvd_coe_gcd h1 h2
 rw[hc]at h3
 have h4:=Int.le_of_dvd (by decide) h3
 have:=h.g0
 omega
theorem inv_any {c m g u v:Int} (h:Fp.Eu (c%m) m g 0 u v) (hc:Int.gcd (c%m) m=1) (hm:1<m):u%m=Fp.inv c m:=by
 have e:=inv_one h hc
 subst e
 have hg:=h.gd
 refine Fp.inv_eq (Int.emod_nonneg u (by omega)) (Int.emod_lt_of_pos u (by omega)) ?_
 have e2:(u%m*c)%m=(u*(c%m))%m:=by rw[Int.mul_emod,Int.emod_emod,Int.mul_emod u (c%m),Int.emod_emod]
 rw[e2]
 obtain⟨k,hk⟩:=hg
 have e3:u*(c%m)=1+m*(-k):=by rw[Int.mul_neg];omega
 rw[e3,Int.add_mul_emod_self_left]
 exact Int.emod_eq_of_lt (by omega) (by omega)
set_option maxHeartbeats 4000000 in
theorem rinv_ok {c p:Int} (h1:1≤p) (h2:p≤65521) (hc:0<c%p) (hg:Int.gcd (c%p) p=1):FnOK Tryz.prog false 57 [.c (.int .i64 c),.c (.int .i64 p)] (.t2 (.c (.int .i64 (Fp.inv c p))) (.c (.int .i64 0))):=by
 have hlt:=Int.emod_lt_of_pos c (show 0<p by omega)
 refine fn_ok (E:=E0) E0_ok Tryz.func57 rfl mixed (by kernel_rfl) (by kernel_rfl) ?_
 conv=>whnf
 refine⟨_,Fp.refInRange_ok (by omega) h2,?_⟩
 conv=>whnf
 refine⟨_,Fp.refMod_ok (a:=c) (by omega) h2,?_⟩
 conv=>whnf
 refine loop_ints (fun((g,r,u,v):Int × Int × Int × Int)=>ist [(1,.c (.int .i64 p)),(6,.c (.int .i64 g)),(7,.c (.int .i64 r)),(8,.c (.int .i64 u)),(9,.c (.int .i64 v))] []) (fun(_,r,_,_)=>r.toNat) (fun(g,r,u,v)=>Fp.Eu (c%p) p g r u v) (c%p,p,1,0) rfl (Weak.ints [] rfl trivial ⟨⟨_,rfl,rfl⟩,⟨_,rfl,rfl⟩,⟨_,rfl,rfl⟩,⟨_,rfl,rfl⟩,⟨_,rfl,rfl⟩,trivial⟩) (Fp.Eu.start hc hlt) ?_
 rintro ⟨g,r,u,v⟩ hE
 have hE:Fp.Eu (c%p) p g r u v:=hE
 conv=>whnf
 refine bcase (fun(h:decide (0<r)=true)=>?_) fun(h:decide (0<r)=false)=>?_
 ·have h:=of_decide_eq_true h
  obtain⟨q1,q2,q3,q4,q5,q6⟩:=hE.quo h
  obtain⟨s1,s2,s3,s4⟩:=hE.step h
  rw[← q1]at q2 q3 q4 q5 q6 s1 s2 s3 s4
  have:=hE.u1
  have:=hE.u2
  have:=hE.gm
  conv=>whnf
  refine⟨by omega,Fp.i64 (by omega) (by omega),?_⟩
  conv=>whnf
  refine⟨Fp.i64 (by omega) (by omega),?_⟩
  conv=>whnf
  refine⟨Fp.i64 (by omega) (by omega),?_⟩
  conv=>whnf
  refine⟨Fp.i64 (by omega) (by omega),?_⟩
  conv=>whnf
  refine⟨Fp.i64 (by omega) (by omega),?_⟩
  conv=>whnf
  exact⟨(r,g-Int.tdiv g r*r,v,u-Int.tdiv g r*v),s4,Weak.ints [] rfl trivial ⟨⟨_,rfl,rfl⟩,⟨_,rfl,rfl⟩,⟨_,rfl,rfl⟩,⟨_,rfl,rfl⟩,⟨_,rfl,rfl⟩,trivial⟩,s1⟩
 ·have h:=of_decide_eq_false h
  obtain rfl:r=0:=by have:=hE.r0;omega
  have e2:=inv_any hE hg (by omega)
  have e1:g=1:=inv_one hE hg
  subst e1
  conv=>whnf
  refine⟨_,Fp.refMod_ok (a:=u) (by omega) h2,?_⟩
  conv=>whnf
  refine⟨rfl,?_⟩
  rw[e2]
  exact Sub.refl _
end Spl
end Go.Proofs.YtibaocbpeaejkaaGreat
/- The document's Small below 2^32; polynomials reduced modulo p. -/
namespace Go.Proofs.YtibaocbpeaejkaaGreat
open Go.RowKit
namespace Spl
abbrev gJ (n:Nat) (g:Nat->Int):Gx:=⟨3,1,n,fun i _ => .int .i64 (g i)⟩
theorem one_src {bl:List Blk} {r:Prop} {v:Int} {x y:Nat} (hx:x<1) (hy:y<1):St.one bl (rowF 1 [.int .i64 v] x y)=true/\(r->(rowF 1 [.int .i64 v] x y).noU=true):=by
 obtain rfl:x=0:=by omega
 obtain rfl:y=0:=by omega
 exact⟨rfl,fun _=>rfl⟩
theorem blk_src {q:Nat} {bl:List Blk} {ks:List (Option Nat)} {v:Nat->Int} {p:Int} {i x j:Nat} (hx:x<i+1) (hj:j<1):regC q bl ks (.int .i64 (v x%p)) (fun y=>appF i (fun i _ => .int .i64 (v i%p)) (rowF 1 [.int .i64 (v i%p)]) x j=y):=by
 obtain rfl:j=0:=by omega
 exact regE (appI (f:=fun i=>v i%p) (g:=fun i=>v i%p) (Rf.app_same (fun i=>v i%p) i x) (Nat.le_refl (i+1)) hx) rfl
theorem ofZ_one {d:Nat} (h0:0<d) (h1:d<4294967296):ofZ (d:Int)=⟨false,[d]⟩:=by
 unfold ofZ
 rw[decide_eq_false (by omega),Int.natAbs_natCast,← digs_unique (l:=[d]) (n:=d) (Dg.ok_cons.2 ⟨h1,fun x hx=>absurd hx List.not_mem_nil⟩) (fun x hx=>by
  simp at hx
  omega) (by show d+Dg.B*0=d;omega)]
set_option maxHeartbeats 4000000 in
theorem small_one {d:Nat} (h0:0<d) (h1:d<4294967296):FnOK Tryz.prog false 66 [.g (zr ⟨false,[d]⟩)] (.t2 (.c (.int .i64 (d:Nat))) (.c (.bool true))):=by
 have kn:FnOK Tryz.prog false 37 [.g (zr ⟨false,[d]⟩)] (.g (zr ⟨false,[d]⟩)):=by
  have:=Rf.znorm_ok (a:=ofZ (d:Int)) (Rf.wr_nz (by rw[← ofZ_len,ofZ_one h0 h1];exact(by decide:1≤1048576)))
  rw[ofZ_val]at this
  show FnOK _ _ _ _ (.g (zr ⟨false,[d]⟩))
  rwa [show nz (d:Int)=zr ⟨false,[d]⟩from congrArg zr (ofZ_one h0 h1),ofZ_one h0 h1]at this
 have e:IntKind.u64.wrap (IntKind.u64.wrap (0*2^min (Int.toNat 32) IntKind.u64.bits)+IntKind.u64.wrap ((d:Nat):Int))=d:=by
  rw[show(0:Int)*2^min (Int.toNat 32) IntKind.u64.bits=0 by rw[Int.zero_mul]]
  rw[IntKind.wrap_u64,IntKind.wrap_u64,IntKind.wrap_u64]
  omega
 refine fn_ok (E:=E0) E0_ok Tryz.func66 rfl mixed (by kernel_rfl) (by kernel_rfl) ?_
 conv=>whnf
 refine⟨_,kn,?_⟩
 conv=>whnf
 refine⟨Fp.i64 (show(-9223372036854775808:Int)≤((1:Nat):Int)-1 by decide) (show((1:Nat):Int)-1<9223372036854775808 by decide),?_⟩
 conv=>whnf
 refine loop_unroll 3 ?_
 conv=>whnf
 refine⟨by decide,?_⟩
 conv=>whnf
 refine⟨by show(0:Int)≤((1:Nat):Int)-1;decide,by show((1:Nat):Int)-1<((1:Nat):Int);decide,?_⟩
 conv=>whnf
 refine⟨Fp.i64 (show(-9223372036854775808:Int)≤((1:Nat):Int)-1-1 by decide) (show((1:Nat):Int)-1-1<9223372036854775808 by decide),?_⟩
 conv=>whnf
 refine bpos (show decide (IntKind.u64.wrap (IntKind.u64.wrap (0*2^min (Int.toNat 32) IntKind.u64.bits)+IntKind.u64.wrap ((d:Nat):Int))≤9223372036854775807)=true from decide_eq_true (by rw[e];omega)) ?_
 conv=>whnf
 exact⟨rfl,subT2 (Fp.subI (show IntKind.i64.wrap (IntKind.u64.wrap (IntKind.u64.wrap (0*2^min (Int.toNat 32) IntKind.u64.bits)+IntKind.u64.wrap ((d:Nat):Int)))=d by rw[e,Fp.IntKind.wrap_i64_in (by omega) (by omega)])) (Sub.refl _)⟩
set_option maxHeartbeats 4000000 in
theorem small_zero:FnOK Tryz.prog false 66 [.g (zr ⟨false,[]⟩)] (.t2 (.c (.int .i64 0)) (.c (.bool true))):=by
 have kn:FnOK Tryz.prog false 37 [.g (zr ⟨false,[]⟩)] (.g (zr ⟨false,[]⟩)):=by
  have:=Rf.znorm_ok (a:=ofZ 0) (Rf.wr_nz (by decide))
  rwa [ofZ_val]at this
 refine fn_ok (E:=E0) E0_ok Tryz.func66 rfl mixed (by kernel_rfl) (by kernel_rfl) ?_
 conv=>whnf
 refine⟨_,kn,?_⟩
 conv=>whnf
 refine⟨Fp.i64 (show(-9223372036854775808:Int)≤((0:Nat):Int)-1 by decide) (show((0:Nat):Int)-1<9223372036854775808 by decide),?_⟩
 conv=>whnf
 refine loop_unroll 2 ?_
 conv=>whnf
 exact⟨rfl,Sub.refl _⟩
theorem small_ok {x:Int} (h0:0≤x) (h1:x<4294967296):FnOK Tryz.prog false 66 [.g (nz x)] (.t2 (.c (.int .i64 x)) (.c (.bool true))):=by
 rcases Int.lt_or_le 0 x with h | h
 ·obtain⟨d,rfl⟩:∃ d:Nat,x=d:=⟨x.toNat,by omega⟩
  have:=small_one (d:=d) (by omega) (by omega)
  rwa [show nz (d:Int)=zr ⟨false,[d]⟩from congrArg zr (ofZ_one (by omega) (by omega))]
 ·obtain rfl:x=0:=by omega
  exact small_zero
set_option maxHeartbeats 4000000 in
theorem reduce_ok {p:Int} {n:Nat} {v:Nat->Int} (hp:0<p) (hp2:p≤65521) (hn:n≤4096) (hv:∀ i,i<n->zlen (v i)≤1000):FnOK Tryz.prog false 23 [.c (nl n v),.c (.int .i64 p)] (.c (il (Fp.tl (Fp.nf p n fun i=>v i%p) n) (Fp.nf p n fun i=>v i%p))):=by
 have kN:=Fp.refNormal_ok (p:=p) (n:=n) (a:=fun i=>v i%p) hp hp2 (by omega)
 have kO:=Rf.rof_ok (x:=p) (by omega) (by omega)
 have zp:zlen p≤1:=zlen_le (by show p.natAbs<4294967296;omega)
 have kE:=fun i (hi:i<n)=>Rf.euclid_ok (a:=ofZ (v i)) (b:=ofZ p) (Rf.wr_nz (by have:=hv i hi;omega)) (Rf.wr_nz (by omega)) (by rw[ofZ_val];have:=hv i hi;omega) (by rw[ofZ_val];omega) (by rw[ofZ_val];omega)
 simp only[ofZ_val]at kE
 have kS:=fun i=>small_ok (x:=v i%p) (Int.emod_nonneg _ (by omega)) (by have:=Int.emod_lt_of_pos (v i) hp;omega)
 refine fn_ok (E:=E0) E0_ok Tryz.func23 rfl mixed (by kernel_rfl) (by kernel_rfl) ?_
 conv=>whnf
 refine loop_ints (fun i:Nat=>gst [(0,.c (nl n v)),(1,.c (.int .i64 p)),(5,.c (.gs 0 0)),(6,.c (.int .i64 i))] [gJ i fun i=>v i%p]) (fun i=>n-i) (fun i=>i≤n) 0 rfl (Weak.gen [none] rfl ⟨rfl,trivial⟩ ⟨.inl ⟨_,_,rfl,rfl,fun _ _ _ _=>rfl⟩,⟨_,rfl,rfl⟩,rfl,⟨_,rfl,rfl⟩,trivial⟩) (Nat.zero_le _) fun i hi=>?_
 have kE:=kE i
 have kS:=kS i
 conv=>whnf
 refine bcase (fun(h:decide ((i:Int)<n)=true)=>?_) fun(h:decide ((i:Int)<n)=false)=>?_
 ·have h:=of_decide_eq_true h
  have kE:=kE (by omega)
  conv=>whnf
  refine⟨by omega,by show(i:Int)<(n:Int);omega,?_⟩
  conv=>whnf
  refine⟨_,kO,?_⟩
  conv=>whnf
  refine⟨_,kE,?_⟩
  conv=>whnf
  refine⟨_,kS,?_⟩
  conv=>whnf
  refine⟨by show i+1≤16777216;omega,fun x y hx hy=>one_src (v:=v i%p) hx hy,?_⟩
  conv=>whnf
  refine⟨Fp.i64 (by omega) (by omega),?_⟩
  conv=>whnf
  exact⟨i+1,by omega,Weak.gen [some 0] rfl ⟨⟨_,rfl,rfl,rfl,rfl,rfl,fun x j hx hj=>blk_src (v:=v) (p:=p) hx hj⟩,trivial⟩ ⟨.inl ⟨_,_,rfl,rfl,fun _ _ _ _=>rfl⟩,⟨_,rfl,rfl⟩,⟨_,rfl,rfl,rfl⟩,⟨_,rfl,rfl⟩,trivial⟩,by omega⟩
 ·have h:=of_decide_eq_false h
  obtain rfl:i=n:=by omega
  conv=>whnf
  refine .inr ?_
  conv=>whnf
  refine⟨fun _ _ _ _=>rfl,?_⟩
  conv=>whnf
  refine⟨_,kN,?_⟩
  conv=>whnf
  exact⟨rfl,Sub.refl _⟩
end Spl
end Go.Proofs.YtibaocbpeaejkaaGreat
/- A walk in pieces: behind each piece the state is told anew. -/
namespace Go.Proofs.YtibaocbpeaejkaaGreat
open Go.RowKit
structure Swp (E : Env) (N : Nat) (c : Code) (σ : St) (R : Exit → St → Prop) : Prop where
 run:∀(C:Ctx) (a:Act) (w:World),C.r=E.r->C.ρ0.length≤E.m0->C.N=N->Rel C σ a w->c.wp E.P (QR C R) a w
theorem swp_of {E:Env} (hE:EnvOK E) (hm:E.P.follows .mixedOrders=true) {N:Nat} {c:Code} {σ:St} {R:Exit->St->Prop} (hc:codeB N c=true) (h:awp E c σ R):Swp E N c σ R :=
 ⟨fun C a w h1 h2 h3 hr=>awp_sound (C:=C) hE h1 h2 hm c (by rw[h3];exact hc) h hr⟩
theorem swp_seq {E:Env} (hE:EnvOK E) (hm:E.P.follows .mixedOrders=true) {N:Nat} {x y:Code} {σ:St} {R:Exit->St->Prop} (hc:codeB N x=true) (h:awp E x σ (seqR (fun σ'=>∃ σ2,Weak E.m0 σ' σ2/\Swp E N y σ2 R) R)):Swp E N (.seq x y) σ R:=by
 refine⟨fun C a w h1 h2 h3 hr=>?_⟩
 refine wp_seq (wp_mono (awp_sound (C:=C) hE h1 h2 hm x (by rw[h3];exact hc) h hr) ?_)
 rintro e a' w' ⟨σ',hrel,hk⟩
 cases e with
 | normal =>
  obtain⟨σ2,hw,hs⟩:=hk
  exact hs.run C a' w' h1 h2 h3 (hw C a' w' h2 hrel)
 | _=>exact⟨σ',hrel,hk⟩
theorem swp_seq0 {E:Env} (hE:EnvOK E) (hm:E.P.follows .mixedOrders=true) {N:Nat} {x y:Code} {σ:St} {R:Exit->St->Prop} (hc:codeB N x=true) (h:awp E x σ (seqR (fun σ'=>Swp E N y σ' R) R)):Swp E N (.seq x y) σ R:=by
 refine⟨fun C a w h1 h2 h3 hr=>?_⟩
 refine wp_seq (wp_mono (awp_sound (C:=C) hE h1 h2 hm x (by rw[h3];exact hc) h hr) ?_)
 rintro e a' w' ⟨σ',hrel,hk⟩
 cases e with
 | normal=>exact hk.run C a' w' h1 h2 h3 hrel
 | _=>exact⟨σ',hrel,hk⟩
theorem swp_seqS {E:Env} {N:Nat} {x y:Code} {σ:St} {R:Exit->St->Prop} (h:Swp E N x σ (seqR (fun σ'=>Swp E N y σ' R) R)):Swp E N (.seq x y) σ R:=by
 refine⟨fun C a w h1 h2 h3 hr=>?_⟩
 refine wp_seq (wp_mono (h.run C a w h1 h2 h3 hr) ?_)
 rintro e a' w' ⟨σ',hrel,hk⟩
 cases e with
 | normal=>exact hk.run C a' w' h1 h2 h3 hrel
 | _=>exact⟨σ',hrel,hk⟩
theorem swp_block {E:Env} {N id:Nat} {c:Code} {σ:St} {R:Exit->St->Prop} (h:Swp E N c σ (blockR id R)):Swp E N (.block id c) σ R:=by
 refine⟨fun C a w h1 h2 h3 hr=>?_⟩
 refine wp_block (wp_mono (h.run C a w h1 h2 h3 hr) ?_)
 rintro e a' w' ⟨σ',hrel,hk⟩
 cases e with
 | exit i =>
  simp only[blockR]at hk
  simp only[Exit.inBlock]
  split
  ·rename_i e;rw[if_pos e]at hk;exact⟨σ',hrel,hk⟩
  ·rename_i e;rw[if_neg e]at hk;exact⟨σ',hrel,hk⟩
 | _=>exact⟨σ',hrel,hk⟩
theorem swp_loop {E:Env} {N:Nat} {c:Code} {σ:St} {R:Exit->St->Prop} {α:Type} (S:α->St) (m:α->Nat) (I:α->Prop) (x0:α) (h0:Weak E.m0 σ (S x0)) (hI:I x0) (hr:∀ x,I x->Swp E N c (S x) (seqR (fun σ2=>∃ x',m x'<m x/\Weak E.m0 σ2 (S x')/\I x') R)):Swp E N (.loop c) σ R:=by
 refine⟨fun C a w h1 h2 h3 hrel=>?_⟩
 refine wp_loop_ghost (fun n a w=>∃ x,n=m x/\I x/\Rel C (S x) a w) (m x0) ⟨x0,rfl,hI,h0 _ _ _ h2 hrel⟩ ?_
 rintro n a w ⟨x,rfl,hx,hrel⟩
 refine wp_mono ((hr x hx).run C a w h1 h2 h3 hrel) ?_
 rintro e a' w' ⟨σ2,hrel2,hk⟩
 cases e with
 | normal =>
  obtain⟨x',hlt,hw,hI'⟩:=hk
  exact⟨m x',hlt,x',rfl,hI',hw _ _ _ h2 hrel2⟩
 | _=>exact⟨σ2,hrel2,hk⟩
theorem fn_okS {E : Env} (hE : EnvOK E) {f : FuncId} {fn : Func} {c : Code} {args : List V} {X : V} (hf : E.P.funcs[f]? = some fn) (hb : fn.body = some c) (hbd : hasBody E.P f = true)
  (h:Swp E fn.ntmps c ⟨frame0 args,[]⟩ (retOK E fn.results.toList X)):FnOK E.P E.r f args X:=by
 refine⟨hbd,?_⟩
 intro D w vs hD hU hargs
 refine calls_of_wp hf hb ?_
 let C:Ctx:=⟨D,⟨w,fun _=>False⟩,E.r,fn.ntmps,[]⟩
 have hlen:=hargs.length
 have hrel:Rel C ⟨frame0 args,[]⟩ { tmps:=vs.toArray++Array.replicate (fn.ntmps-vs.toArray.size) undef,defers:=[] } w:=by
  have hDof:∀ b,Dof D [] [] b->D b:=by
   rintro b (h | ⟨k,l,B,h1,_⟩)
   ·exact h
   ·simp at h1
  refine⟨[],⟨⟨rfl,rfl,rfl,Nat.le_refl _,fun _ _ _=>rfl⟩,fun b hb=>⟨hD b hb,id⟩,rfl,fun k l B h1 _=>by simp at h1,fun i j li lj Bi Bj b h1=>by simp at h1,fun hr b o d hb=>hU hr b o d (hDof b hb)⟩,⟨by simp[C];omega,LocsLe.refl _⟩,rfl,fun t=>?_⟩
  have h1:=hargs.get t
  have h2:VRel (Dof D [] []) w [] (args.getD t (.c .any)) (vs.getD t undef):=h1.step (Ext.refl _ _) (fun b _ hb=>hDof b hb) (LocsLe.refl _)
  show VRel (Dof D [] []) w [] (args.getD t (.c .any)) _
  rcases Nat.lt_or_ge t vs.length with hlt | hge
  ·have:(vs.toArray++Array.replicate (fn.ntmps-vs.toArray.size) undef).getD t undef=vs.getD t undef:=by
    rw[Array.getD_eq_getD_getElem?,Array.getElem?_append_left (by simpa using hlt)]
    simp[List.getD]
   rw[this];exact h2
  ·rw[show args.getD t (V.c .any) = .c .any by rw[List.getD,List.getElem?_eq_none (by omega)];rfl]
   trivial
 refine wp_mono (h.run C _ _ rfl (Nat.zero_le _) rfl hrel) ?_
 rintro e a w' ⟨σ,hr,hk⟩
 have fin:retOK E fn.results.toList X .ret σ->a.defers=[]/\∃ v,(results fn a.tmps).run E.P w' = .ok v w'/\∃ u,Ending.returned v = .returned u/\VRel D w' [] X u/\Below w.heap.size w w':=by
  intro hk
  obtain⟨ρ,hs,hN,hdf,hfr⟩:=hr
  refine⟨hdf,?_⟩
  simp only[retOK]at hk
  split at hk
  ·rename_i v hv
   obtain⟨x,hx,hxr⟩:=ret_run hE hs hfr hv
   -- the result in a slot of its own
   let tm':Nat->V:=fun t=>if t=a.tmps.size then v else σ.tm t
   let a':Act:={ a with tmps:=a.tmps.push x }
   have hrel':Rel C ⟨tm',σ.bl⟩ a' w':=by
    refine⟨ρ,hs,⟨by show _≤(a.tmps.push x).size;have:=hN.1;simp;omega,hN.2⟩,hdf,fun t=>?_⟩
    show VRel _ _ _ (if t=a.tmps.size then v else σ.tm t) ((a.tmps.push x).getD t undef)
    by_cases e:t=a.tmps.size
    ·rw[if_pos e,e];simpa [Array.getD] using hxr
    ·rw[if_neg e]
     have:(a.tmps.push x).getD t undef=a.tmps.getD t undef:=by
      rw[Array.getD_eq_getD_getElem?,Array.getD_eq_getD_getElem?,Array.getElem?_push]
      rw[if_neg e]
     rw[this];exact hfr t
   have hk':=frzA_tm (tm:=tm') (K':=fun σ'=>closT (closeT σ'.bl v)=true/\Sub (closeT σ'.bl v) X) (partsV v) (fun bl h=>h) hk
   obtain⟨σ',⟨h1,h2⟩,⟨ρ',hs',_,_,hfr'⟩,htm⟩:=Rel.frzA hk' hrel'
   have h3:=hfr' a.tmps.size
   rw[htm]at h3
   have h4:VRel (Dof D ρ' σ'.bl) w' ρ' v x:=by
    have e1:tm' a.tmps.size=v:=by show(if a.tmps.size=a.tmps.size then v else _)=v;rw[if_pos rfl]
    have e2:a'.tmps.getD a.tmps.size undef=x:=by show(a.tmps.push x).getD a.tmps.size undef=x;simp[Array.getD]
    rw[← e1,← e2]
    exact h3
   have h5:=closT_rel (ρ':=[]) (closeT_rel hs' h4) h1
   exact⟨x,hx,x,rfl,h2 D w' x (h5.step (Ext.refl _ _) (fun b _ hb => .inl hb) (LocsLe.refl _)),⟨hs'.below.os,hs'.below.tape,hs'.below.output,hs'.below.size,fun k hk=>hs'.below.block k hk id⟩⟩
  ·exact hk.elim
 cases e with
 | normal=>exact fin hk
 | ret=>exact fin hk
 | exit i=>exact hk.elim
 | goto l=>exact hk.elim
 | panic ch=>exact hk.elim
 | outgrown=>exact hk.elim
def retS (E:Env) (rs:List ResultVar) (X:V) (m:Nat) (post:List Blk) (e:Exit) (σ:St):Prop :=
 match e with
 | .normal | .ret=>match retV E σ rs with
  | some v=>Weak m ⟨asg [(0,v)],σ.bl⟩ ⟨asg [(0,X)],post⟩
  | none=>False
 | _=>False
theorem fns_okS {E : Env} (hE : EnvOK E) {f : FuncId} {fn : Func} {c : Code} {args : List V} {X : V} {bl post : List Blk} (hf : E.P.funcs[f]? = some fn) (hb : fn.body = some c) (hbd : hasBody E.P f = true) (hm0 : E.m0 = bl.length)
  (h:Swp E fn.ntmps c ⟨frame0 args,bl⟩ (retS E fn.results.toList X bl.length post)):FnS E.P E.r f bl args X post:=by
 refine⟨hbd,?_⟩
 intro D w0 ρ w vs hs0 hargs
 refine calls_of_wp hf hb ?_
 let C:Ctx:=⟨D,w0,E.r,fn.ntmps,ρ⟩
 have hlen:=hargs.length
 have hrl:ρ.length=bl.length:=hs0.len
 have hrel:Rel C ⟨frame0 args,bl⟩ { tmps:=vs.toArray++Array.replicate (fn.ntmps-vs.toArray.size) undef,defers:=[] } w:=by
  refine⟨ρ,hs0,⟨by simp[C];omega,LocsLe.refl _⟩,rfl,fun t=>?_⟩
  have h2:=hargs.get t
  show VRel (Dof D ρ bl) w ρ (args.getD t (.c .any)) _
  rcases Nat.lt_or_ge t vs.length with hlt | hge
  ·have:(vs.toArray++Array.replicate (fn.ntmps-vs.toArray.size) undef).getD t undef=vs.getD t undef:=by
    rw[Array.getD_eq_getD_getElem?,Array.getElem?_append_left (by simpa using hlt)]
    simp[List.getD]
   rw[this];exact h2
  ·rw[show args.getD t (V.c .any) = .c .any by rw[List.getD,List.getElem?_eq_none (by omega)];rfl]
   trivial
 refine wp_mono (h.run C _ _ rfl (by show ρ.length≤E.m0;omega) rfl hrel) ?_
 rintro e a w' ⟨σ,hr,hk⟩
 have fin:retS E fn.results.toList X bl.length post .ret σ->a.defers=[]/\∃ v,(results fn a.tmps).run E.P w' = .ok v w'/\∃ u ρ',Ending.returned v = .returned u/\Sat D w0 E.r ρ' post w'/\LocsLe ρ ρ'/\VRel (Dof D ρ' post) w' ρ' X u:=by
  intro hk
  obtain⟨ρ1,hs,hN,hdf,hfr⟩:=hr
  refine⟨hdf,?_⟩
  simp only[retS]at hk
  split at hk
  ·rename_i v hv
   obtain⟨x,hx,hxr⟩:=ret_run hE hs hfr hv
   have hrel':Rel ⟨D,w0,E.r,0,ρ⟩ ⟨asg [(0,v)],σ.bl⟩ ⟨#[x],[]⟩ w':=by
    refine⟨ρ1,hs,⟨Nat.zero_le _,hN.2⟩,rfl,fun t=>?_⟩
    show VRel _ _ _ (if t=0 then v else .c .any) _
    split
    ·rename_i e;subst e;exact hxr
    ·trivial
   obtain⟨ρ2,hs2,hN2,_,hf2⟩:=hk ⟨D,w0,E.r,0,ρ⟩ _ _ (by show ρ.length≤bl.length;omega) hrel'
   exact⟨x,hx,x,ρ2,rfl,hs2,hN2.2,hf2 0⟩
  ·exact hk.elim
 cases e with
 | normal=>exact fin hk
 | ret=>exact fin hk
 | exit i=>exact hk.elim
 | goto l=>exact hk.elim
 | panic ch=>exact hk.elim
 | outgrown=>exact hk.elim
end Go.Proofs.YtibaocbpeaejkaaGreat
/- Runs whose results are told cell by cell. -/
namespace Go.Proofs.YtibaocbpeaejkaaGreat
open Go.RowKit
def sameC : Cell → Cell → Bool
 | .bool a,.bool b=>a == b
 | .int k a,.int l b=>decide (k=l)&&decide (a=b)
 | .nil,.nil=>true
 | .nil,.row _ n _=>n == 0
 | .row sz n f,.row sz' n' f'=>sz == sz'&&(n == n'&&((List.range n).all fun i=>(List.range sz).all fun j=>sameC (f i j) (f' i j)))
 | _,_=>false
theorem sameC_ok (a:Cell):∀(b:Cell),sameC a b=true->∀(D:Nat->Prop) (w:World) (v:Value),CRel D w [] a v->CRel D w [] b v:=by
 induction a with
 | bool a =>
  intro b h D w v hv
  cases b with
  | bool b=>simp[sameC]at h;subst h;exact hv
  | _=>simp[sameC]at h
 | int k a =>
  intro b h D w v hv
  cases b with
  | int l b=>simp[sameC]at h;obtain⟨rfl,rfl⟩:=h;exact hv
  | _=>simp[sameC]at h
 | nil =>
  intro b h D w v hv
  cases b with
  | nil=>exact hv
  | row sz n f =>
   have h:n=0:=by simpa [sameC] using h
   subst h
   have hv:v = .slice none 0 0:=hv
   exact⟨none,0,hv,Nat.le_refl _,fun h=>absurd h (Nat.lt_irrefl 0)⟩
  | _=>simp[sameC]at h
 | row sz n f ih =>
  intro b h D w v hv
  cases b with
  | row sz' n' f' =>
   simp only[sameC,Bool.and_eq_true,beq_iff_eq,List.all_eq_true,List.mem_range]at h
   obtain⟨rfl,rfl,h⟩:=h
   obtain⟨A,c,e1,e2,e3⟩:=hv
   refine⟨A,c,e1,e2,fun hn=>?_⟩
   obtain⟨b,o,g1,g2,g3,g4⟩:=e3 hn
   refine⟨b,o,g1,g2,g3,fun i j hi hj=>?_⟩
   obtain⟨u,hu,hr⟩:=g4 i j hi hj
   exact⟨u,hu,ih i j (f' i j) (h i hi j hj) D w u hr⟩
  | _=>simp[sameC]at h
 | _=>intro b h;cases b <;> simp[sameC]at h
def sameL : List Cell → List Cell → Bool
 | [],[]=>true
 | a :: l,b :: l'=>sameC a b&&sameL l l'
 | _,_=>false
def sameV : V → V → Bool
 | .c a,.c b=>sameC a b
 | .g l,.g l'=>sameL l l'
 | .t2 a b,.t2 c d=>sameV a c&&sameV b d
 | _,_=>false
theorem sameL_ok : ∀ (l l' : List Cell), sameL l l' = true → ∀ (D : Nat → Prop) (w : World) (vs : List Value), CRels D w [] l vs → CRels D w [] l' vs
 | [],[],_,_,_,_,hv=>hv
 | a :: l,b :: l',h,D,w,v :: vs,hv=>by
  simp only[sameL,Bool.and_eq_true]at h
  exact⟨sameC_ok a b h.1 D w v hv.1,sameL_ok l l' h.2 D w vs hv.2⟩
 | [],_ :: _,h,_,_,_,_=>by simp[sameL]at h
 | _ :: _,[],h,_,_,_,_=>by simp[sameL]at h
 | _ :: _,_ :: _,_,_,_,[],hv=>hv.elim
theorem sameV_ok : ∀ (a b : V), sameV a b = true → ∀ (D : Nat → Prop) (w : World) (v : Value), VRel D w [] a v → VRel D w [] b v
 | .c a,.c b,h,D,w,v,hv=>sameC_ok a b h D w v hv
 | .g l,.g l',h,D,w,v,hv=>by
  obtain⟨vs,h1,h2⟩:=hv
  exact⟨vs,h1,sameL_ok l l' h D w _ h2⟩
 | .t2 a b,.t2 c d,h,D,w,v,hv=>by
  simp only[sameV,Bool.and_eq_true]at h
  obtain⟨x,y,h1,h2,h3⟩:=hv
  exact⟨x,y,h1,sameV_ok a c h.1 D w x h2,sameV_ok b d h.2 D w y h3⟩
 | .c _,.g _,h,_,_,_,_=>by simp[sameV]at h
 | .c _,.t2 ..,h,_,_,_,_=>by simp[sameV]at h
 | .c _,.t3 ..,h,_,_,_,_=>by simp[sameV]at h
 | .c _,.t4 ..,h,_,_,_,_=>by simp[sameV]at h
 | .g _,.c _,h,_,_,_,_=>by simp[sameV]at h
 | .g _,.t2 ..,h,_,_,_,_=>by simp[sameV]at h
 | .g _,.t3 ..,h,_,_,_,_=>by simp[sameV]at h
 | .g _,.t4 ..,h,_,_,_,_=>by simp[sameV]at h
 | .t2 ..,.c _,h,_,_,_,_=>by simp[sameV]at h
 | .t2 ..,.g _,h,_,_,_,_=>by simp[sameV]at h
 | .t2 ..,.t3 ..,h,_,_,_,_=>by simp[sameV]at h
 | .t2 ..,.t4 ..,h,_,_,_,_=>by simp[sameV]at h
 | .t3 ..,_,h,_,_,_,_=>by simp[sameV]at h
 | .t4 ..,_,h,_,_,_,_=>by simp[sameV]at h
 | .un,_,h,_,_,_,_=>by simp[sameV]at h
 | .c _,.un,h,_,_,_,_=>by simp[sameV]at h
 | .g _,.un,h,_,_,_,_=>by simp[sameV]at h
 | .t2 ..,.un,h,_,_,_,_=>by simp[sameV]at h
end Go.Proofs.YtibaocbpeaejkaaGreat
/- An append keeps what stood: the old array's places too. -/
namespace Go.Proofs.YtibaocbpeaejkaaGreat
open Go.RowKit
def RelR (C:Ctx) (ρ:List Loc) (σ:St) (a:Act) (w:World):Prop:=Sat C.D0 C.w0 C.r ρ σ.bl w/\(C.N≤a.tmps.size/\LocsLe C.ρ0 ρ)/\a.defers=[]/\∀ t,VRel (Dof C.D0 ρ σ.bl) w ρ (σ.tm t) (a.tmps.getD t undef)
theorem RelR.put {C:Ctx} {ρ:List Loc} {σ:St} {a:Act} {w:World} (h:RelR C ρ σ a w) {dst:Option Nat} (hd:dstOK C.N dst) {v:V} {x:Value} (hv:VRel (Dof C.D0 ρ σ.bl) w ρ v x):RelR C ρ (σ.put dst v) (a.put dst x) w:=by
 obtain⟨hs,hN,hdf,hf⟩:=h
 obtain⟨h1,h2,h3⟩:=frame_put hN.1 hd hf hv
 exact⟨by rw[St.put_bl];exact hs,⟨h1,hN.2⟩,h2.trans hdf,by rw[St.put_bl];exact h3⟩
theorem append_runK {P : Program} {D0 : Nat → Prop} {w0 : Base} {w : World} {r : Bool} {ρ : List Loc} {bl : List Blk} (h : Sat D0 w0 r ρ bl w) {k : Nat} {l : Loc} {B : Blk} (h1 : ρ[k]? = some l) (h2 : bl[k]? = some B) (h3 : B.st = 0)
  {t ty:TypeId} {i:TypeInfo} {z:Value} (ht:P.underlying t=some (.slice B.t)) (hi:P.info? B.t=some i) (hz:i.zero=some z) (hsz:i.size=B.sz) (hzs:z.cells.size=B.sz) (hzU:r=true->∀(x:Nat) (d:Int),z.cells[x]? ≠ some (.int .u32 d))
  {m c:Nat} {A:Option Addr} {news:List Value} (hl:news.length=m*B.sz) (hA:0<m->∃ a,A=some a/\∀ j u,news[j]? = some u->w.cell? (a.add j)=some u) (h1c:∀ u∈news,u.oneCell'=true) (hnU:r=true->∀(x:Nat) (d:Int),news[x]? ≠ some (.int .u32 d))
  (hmax:B.n+m≤maxLen) (hbytes:(B.n+m)*i.bytes≤140737488355328) {fy:Nat->Nat->Cell} (hfy:∀ a b,a<m->b<B.sz->∃ u,news[a*B.sz+b]? = some u/\CRel (Dof D0 ρ bl) w ρ (fy a b) u) :
  ∃ w' l',(Builtin.append_ #[t,t] ty #[l.v,.slice A m c]).run P w = .ok l'.v w'/\Grown w w' l l' B.t B.sz (B.n+m) (Dof D0 ρ bl) ρ r (appF B.n B.f fy)/\(∀ x,x<w.heap.size->l.b≠some x->w'.heap[x]? = w.heap[x]?)/\w.heap.size≤w'.heap.size/\w'.os=w.os/\w'.tape=w.tape/\w'.output=w.output/\(l'.b=l.b∨∀ x,x<w.heap.size->w'.heap[x]? = w.heap[x]?):=by
 obtain⟨q0,q1⟩:=h.at_ k l B h1 h2 (by omega)
 have hm63:((B.n+m:Nat):Int)≤9223372036854775807:=by simp only[maxLen]at hmax;omega
 have zU:r=true->∀(n x:Nat) (d:Int),(Builtin.zeroCells z.cells n)[x]? ≠ some (.int .u32 d):=by
  intro hr n x d e
  have hx:x<(Builtin.zeroCells z.cells n).size:=(Array.getElem?_eq_some_iff.1 e).1
  rw[size_zeroCells]at hx
  have hp:0<z.cells.size:=by
   rcases Nat.eq_zero_or_pos z.cells.size with e0 | e0
   ·rw[e0]at hx;simp at hx
   ·exact e0
  have hlt:x%z.cells.size<z.cells.size:=Nat.mod_lt _ hp
  simp only[Builtin.zeroCells]at e
  rw[Array.getElem?_map,Array.getElem?_range,if_pos (by simpa using hx)]at e
  simp only[Option.map_some,Option.some.injEq]at e
  rw[getElem!_pos z.cells _ hlt]at e
  exact hzU hr (x%z.cells.size) d (by rw[Array.getElem?_eq_getElem hlt,e])
 rcases q1 with⟨n0,b0,v0⟩ | ⟨g,cap,cs,gb,gm,gv,gh,gs,gn,gc,gf⟩
 ·rcases Nat.eq_zero_or_pos m with hm | hm
  ·subst hm
   refine⟨w,⟨l.u+1,none,0,0⟩,?_,.inl ⟨by omega,rfl⟩,fun _ _ _=>rfl,Nat.le_refl _,rfl,rfl,rfl,.inr fun _ _=>rfl⟩
   rw[v0];exact run_append_zero ht hi none 0 0 c A (Nat.le_refl _)
  ·obtain⟨a,rfl,hnews⟩:=hA hm
   have hr:=run_append_nil (P:=P) w t ty B.t i z ht hi hz a m c news (by rw[hsz];exact hl) hnews hm (by omega) (by rw[n0]at hbytes;simp only[Nat.zero_add]at hbytes;omega)
   have hge:=grownCap_ge w m 0 B.t
   have hcm:grownCap w m 0 B.t≤maxLen:=grownCap_le_maxLen w m 0 B.t (by omega)
   refine⟨_,⟨l.u+1,some w.heap.size,m,grownCap w m 0 B.t⟩,by rw[v0];exact hr,.inr ⟨_,_,_,by rw[n0,Nat.zero_add],.inr (Nat.le_refl _),heap_alloc_new w.drew _,?_,by omega,hcm,fun x y hx hy=>?_,fun hr' x d e=>?_⟩,fun x hx _=>heap_alloc_old w.drew _ hx,by simp,rfl,rfl,rfl,.inr fun x hx=>heap_alloc_old w.drew _ hx⟩
   ·rw[Array.size_append,List.size_toArray,hl,size_zeroCells,hzs,← Nat.add_mul];congr 1;omega
   ·rw[n0,Nat.zero_add]at hx
    obtain⟨u,hu,hur⟩:=hfy x y hx hy
    refine⟨u,?_,by unfold appF;rw[n0,if_neg (by omega)];exact hur⟩
    rw[Array.getElem?_append_left (by rw[List.size_toArray];exact(List.getElem?_eq_some_iff.1 hu).1)]
    simpa using hu
   ·rcases Nat.lt_or_ge x news.length with hx | hx
    ·rw[Array.getElem?_append_left (by simpa using hx)]at e
     exact hnU hr' x d (by simpa using e)
    ·rw[Array.getElem?_append_right (by simpa using hx)]at e
     exact zU hr' _ _ d e
 ·have hnoU:r=true->∀(x:Nat) (d:Int),cs[x]? ≠ some (.int .u32 d):=by
   intro hr x d e
   refine h.noU hr g x d (.inr ⟨k,l,B,h1,h2,h3,gb⟩) ?_
   simp only[World.cell?,gh,Option.isSome_none,Bool.false_eq_true,if_false]
   exact e
  have hsmall:B.n*B.sz≤cs.size:=by rw[gs];exact Nat.mul_le_mul_right _ gn
  rcases Nat.eq_zero_or_pos m with hm | hm
  ·subst hm
   refine⟨w,⟨l.u+1,some g,B.n,cap⟩,?_,.inr ⟨g,cap,cs,rfl,.inl gb,gh,gs,gn,gc,fun x y hx hy=>?_,hnoU⟩,fun _ _ _=>rfl,Nat.le_refl _,rfl,rfl,rfl,.inr fun _ _=>rfl⟩
   ·rw[gv];exact run_append_zero ht hi _ _ _ c A gn
   ·obtain⟨u,hu,hur⟩:=gf x y hx hy
    rw[if_pos h3]at hur
    exact⟨u,hu,by unfold appF;rw[if_pos (show x<B.n by omega)];exact hur⟩
  ·obtain⟨a,rfl,hnews⟩:=hA hm
   by_cases hroom:B.n+m≤cap
   ·have hfit:B.n*i.size+news.length≤cs.size:=by rw[hsz,hl,gs,← Nat.add_mul];exact Nat.mul_le_mul_right _ hroom
    have hr:=run_append_room (P:=P) (ty:=ty) w t B.t i ht hi g B.n cap cs gh a m c news (by rw[hsz];exact hl) hnews h1c hroom hfit
    rw[hsz]at hr hfit
    have hget:∀ x:Nat,(cs.toList.take (B.n*B.sz)++news++cs.toList.drop (B.n*B.sz+news.length)).toArray[x]? = if x<B.n*B.sz then cs[x]? else if x<B.n*B.sz+news.length then news[x-B.n*B.sz]? else cs[x]? := by
     intro x
     simp only[List.getElem?_toArray,List.append_assoc]
     have htl:(cs.toList.take (B.n*B.sz)).length=B.n*B.sz:=by simp;omega
     rcases Nat.lt_or_ge x (B.n*B.sz)with hx | hx
     ·rw[List.getElem?_append_left (by omega),if_pos hx,List.getElem?_take_of_lt hx];simp
     ·rw[List.getElem?_append_right (by omega),htl,if_neg (by omega)]
      rcases Nat.lt_or_ge (x-B.n*B.sz) news.length with hx2 | hx2
      ·rw[List.getElem?_append_left hx2,if_pos (by omega)]
      ·rw[List.getElem?_append_right hx2,if_neg (by omega),List.getElem?_drop]
       simp
       congr 1
       omega
    refine⟨_,⟨l.u+1,some g,B.n+m,cap⟩,by rw[gv];exact hr,.inr ⟨g,cap,_,rfl,.inl gb,setRow_heap w g cs _ B.t _ gh,?_,hroom,gc,fun x y hx hy=>?_,fun hr' x d e=>?_⟩,fun x _ hne=>setRow_other w g x _ (fun e=>hne (by rw[e];exact gb)),by simp,rfl,rfl,rfl,.inl gb.symm⟩
    ·simp only[List.size_toArray,List.length_append,List.length_take,List.length_drop,Array.length_toList]
     omega
    ·rw[hget]
     rcases idx_split hx hy with⟨e1,e2⟩ | ⟨e1,e2,e3,e4,e5⟩
     ·obtain⟨u,hu,hur⟩:=gf x y e1 hy
      rw[if_pos h3]at hur
      exact⟨u,by rw[if_pos e2];exact hu,by unfold appF;rw[if_pos e1];exact hur⟩
     ·obtain⟨u,hu,hur⟩:=hfy (x-B.n) y e2 hy
      exact⟨u,by rw[if_neg (by omega),if_pos (by omega),e4];exact hu,by unfold appF;rw[if_neg (by omega)];exact hur⟩
    ·rw[hget]at e
     split at e
     ·exact hnoU hr' x d e
     ·split at e
      ·exact hnU hr' _ d e
      ·exact hnoU hr' x d e
   ·have holds:∀ j u,(cs.toList.take (B.n*B.sz))[j]? = some u->w.cell? ((⟨g,0,none⟩:Addr).add j)=some u:=by
     intro j u hj
     have hjl:j<B.n*B.sz:=by have:=(List.getElem?_eq_some_iff.1 hj).1;simp at this;omega
     rw[List.getElem?_take_of_lt hjl]at hj
     rw[Addr.add_lit,Nat.zero_add]
     simp only[World.cell?,gh,Option.isSome_none,Bool.false_eq_true,if_false]
     simpa using hj
    have hlo:(cs.toList.take (B.n*B.sz)).length=B.n*B.sz:=by simp;omega
    have hr:=run_append_grow (P:=P) (ty:=ty) w t B.t i z ht hi hz ⟨g,0,none⟩ B.n cap _ (by rw[hsz];exact hlo) holds a m c news (by rw[hsz];exact hl) hnews (by omega) (by omega) (growslice_fits (by omega) hbytes)
    have hge:=grownCap_ge w (B.n+m) cap B.t
    have hcm:grownCap w (B.n+m) cap B.t≤maxLen:=grownCap_le_maxLen w (B.n+m) cap B.t hmax
    have hget:∀ x:Nat,x<(B.n+m)*B.sz->((cs.toList.take (B.n*B.sz)).toArray++news.toArray++Builtin.zeroCells z.cells (grownCap w (B.n+m) cap B.t-(B.n+m)))[x]? = if x<B.n*B.sz then cs[x]? else news[x-B.n*B.sz]? := by
     intro x hx
     rw[Nat.add_mul]at hx
     rw[Array.getElem?_append_left (by simp;omega)]
     rcases Nat.lt_or_ge x (B.n*B.sz)with hx1 | hx1
     ·rw[Array.getElem?_append_left (by simp;omega),if_pos hx1]
      simp[List.getElem?_take_of_lt hx1]
     ·rw[Array.getElem?_append_right (by simp;omega),if_neg (by omega)]
      simp only[List.size_toArray,hlo,List.getElem?_toArray]
    refine⟨_,⟨l.u+1,some w.heap.size,B.n+m,grownCap w (B.n+m) cap B.t⟩,by rw[gv];exact hr,.inr ⟨_,_,_,rfl,.inr (Nat.le_refl _),heap_alloc_new w.drew _,?_,by omega,hcm,fun x y hx hy=>?_,fun hr' x d e=>?_⟩,fun x hx _=>heap_alloc_old w.drew _ hx,by simp,rfl,rfl,rfl,.inr fun x hx=>heap_alloc_old w.drew _ hx⟩
    ·rw[Array.size_append,Array.size_append,List.size_toArray,List.size_toArray,hlo,hl,size_zeroCells,hzs,← Nat.add_mul,← Nat.add_mul];congr 1;omega
    ·rw[hget _ (idx_lt hx hy (Nat.le_refl _))]
     rcases idx_split hx hy with⟨e1,e2⟩ | ⟨e1,e2,e3,e4,e5⟩
     ·obtain⟨u,hu,hur⟩:=gf x y e1 hy
      rw[if_pos h3]at hur
      exact⟨u,by rw[if_pos e2];exact hu,by unfold appF;rw[if_pos e1];exact hur⟩
     ·obtain⟨u,hu,hur⟩:=hfy (x-B.n) y e2 hy
      exact⟨u,by rw[if_neg (by omega),e4];exact hu,by unfold appF;rw[if_neg (by omega)];exact hur⟩
    ·rcases Nat.lt_or_ge x ((B.n+m)*B.sz)with hx | hx
     ·rw[hget x hx]at e
      split at e
      ·exact hnoU hr' x d e
      ·exact hnU hr' _ d e
     ·rw[Nat.add_mul]at hx
      rw[Array.getElem?_append_right (by simp;omega)]at e
      exact zU hr' _ _ d e
theorem app_coreK {P : Program} {C : Ctx} {σ : St} {a : Act} {w : World} {ρ : List Loc} (hs : Sat C.D0 C.w0 C.r ρ σ.bl w) (hN : C.N ≤ a.tmps.size ∧ LocsLe C.ρ0 ρ) (hdf : a.defers = []) (hf : ∀ t, VRel (Dof C.D0 ρ σ.bl) w ρ (σ.tm t) (a.tmps.getD t undef))
  {k u m:Nat} {B:Blk} (hB:σ.bl[k]? = some B) (hu:B.u=u) (h0:B.st=0) {vx vy:Value} (hvx:CRel (Dof C.D0 ρ σ.bl) w ρ (.gs k u) vx) {y:V} (hvy:VRel (Dof C.D0 ρ σ.bl) w ρ y vy) {fy:Nat->Nat->Cell} (hsrc:srcA σ.bl B.sz k y=some (m,fy))
  {T ty:TypeId} {ti te:TI} (ht:tyOf P T=some ti) (he:ti.elem=some B.t) (hte:tyOf P B.t=some te) (hsz:te.size=B.sz) (hzl:te.zero.length=te.size) (hpos:0<te.size) (hzU:C.r=true->te.zero.all Cell.noU=true) (hby:te.bytes≤8388608) (hmax:B.n+m≤16777216)
  (hone:∀ i j,i<m->j<B.sz->St.one σ.bl (fy i j)=true/\(C.r=true->(fy i j).noU=true)) {dst:Option Nat} (hd:dstOK C.N dst) :
  ∃ v' w',(Builtin.append_ #[T,T] ty #[vx,vy]).run P w = .ok v' w'/\∃(l l':Loc),ρ[k]? = some l/\vx=l.v/\v'=l'.v/\RelR C (ρ.set k l') (St.put { σ with bl:=σ.bl.set k ⟨B.t,B.sz,B.n+m,B.u+1,0,appF B.n B.f fy⟩ } dst (.c (.gs k (u+1)))) (a.put dst v') w'/\(∀ x,x<w.heap.size->l.b≠some x->w'.heap[x]? = w.heap[x]?)/\w.heap.size≤w'.heap.size/\(l'.b=l.b∨∀ x,x<w.heap.size->w'.heap[x]? = w.heap[x]?)/\(∀ x,x<w.heap.size->Dof C.D0 (ρ.set k l') (σ.bl.set k ⟨B.t,B.sz,B.n+m,B.u+1,0,appF B.n B.f fy⟩) x->Dof C.D0 ρ σ.bl x):=by
 obtain⟨l,h1,h2,h3⟩:=hvx
 obtain⟨g0,_⟩:=hs.at_ k l B h1 hB (by omega)
 have hvl:=h3 (by omega)
 obtain⟨A,c,news,rfl,n1,n2,n3,n4⟩:=src_rel hs (by omega) hvy hsrc
 obtain⟨d,i,zv,hdd,hi,hz,rfl⟩:=tyOf_spec hte
 obtain⟨w',l',r1,r2,r3,r4,r5,r6,r7,r8⟩:=append_runK (P:=P) (ty:=ty) hs h1 hB h0 (under_elem ht he) hi hz hsz (by rw[← hsz,← hzl];simp[tiOf]) (fun hr x dd e=>by
   have:=List.all_eq_true.1 (hzU hr) (cellOf (.int .u32 dd)) (List.mem_map.2 ⟨_,by rw[Array.mem_toList_iff];exact Array.mem_of_getElem? e,rfl⟩)
   simp[cellOf,Cell.noU]at this) n1 n2 (fun x hx=>by
   obtain⟨j,hj⟩:=List.getElem?_of_mem hx
   obtain⟨p,q,hp,hq,hr⟩:=n4 j x hj
   exact(one_rel hs (hone p q hp hq).1 hr).1) (fun hr x dd e=>by
   obtain⟨p,q,hp,hq,hrr⟩:=n4 x _ e
   exact noU_rel hs (hone p q hp hq).1 ((hone p q hp hq).2 hr) hrr dd rfl) (by unfold maxLen;omega) (by
   have:(B.n+m)*i.bytes≤16777216*8388608:=Nat.mul_le_mul hmax hby
   omega) n3
 obtain⟨s1,s2,s3,s4⟩:=hs.bump h1 hB h0 r2 r3 r4 r5 r6 r7
 refine⟨l'.v,w',by rw[hvl];exact r1,l,l',h1,hvl,rfl,RelR.put (σ:={ σ with bl:=σ.bl.set k ⟨B.t,B.sz,B.n+m,B.u+1,0,appF B.n B.f fy⟩ }) ⟨s1,⟨hN.1,hN.2.trans s4⟩,hdf,frame_step s2 s3 s4 hf⟩ hd ?_,r3,r4,r8,s3⟩
 have hlu:l'.u=l.u+1:=by
  rcases r2 with⟨_,e⟩ | ⟨g,cap',cs',e,_⟩ <;> rw[e]
 exact⟨l',List.getElem?_set_self (List.getElem?_eq_some_iff.1 h1).1,by omega,fun _=>rfl⟩
def keepC (alias:Bool) (k u sz m:Nat) (f:Nat->Nat->Cell):Cell:=match alias with
 | true => .sl k (u+1) sz 0 m
 | false => .row sz m f
theorem app_keep {P : Program} {C : Ctx} {σ : St} {a : Act} {w : World} {ρ : List Loc} (hs : Sat C.D0 C.w0 C.r ρ σ.bl w) (hN : C.N ≤ a.tmps.size ∧ LocsLe C.ρ0 ρ) (hdf : a.defers = []) (hf : ∀ t, VRel (Dof C.D0 ρ σ.bl) w ρ (σ.tm t) (a.tmps.getD t undef))
  {k u m:Nat} {B:Blk} (hB:σ.bl[k]? = some B) (hu:B.u=u) (h0:B.st=0) {vx vy:Value} (hvx:CRel (Dof C.D0 ρ σ.bl) w ρ (.gs k u) vx) {y:V} (hvy:VRel (Dof C.D0 ρ σ.bl) w ρ y vy) {fy:Nat->Nat->Cell} (hsrc:srcA σ.bl B.sz k y=some (m,fy))
  {T ty:TypeId} {ti te:TI} (ht:tyOf P T=some ti) (he:ti.elem=some B.t) (hte:tyOf P B.t=some te) (hsz:te.size=B.sz) (hzl:te.zero.length=te.size) (hpos:0<te.size) (hzU:C.r=true->te.zero.all Cell.noU=true) (hby:te.bytes≤8388608) (hmax:B.n+m≤16777216)
  (hone:∀ i j,i<m->j<B.sz->St.one σ.bl (fy i j)=true/\(C.r=true->(fy i j).noU=true)) {d s c:Nat} (hd:dstOK C.N (some d)) (hds:s≠d) (hsl:σ.tm s = .c (.sl k u B.sz 0 c)) (hcl:∀ i j,i<c->j<B.sz->(B.f i j).clos=true) :
  ∃ v' w' alias,(Builtin.append_ #[T,T] ty #[vx,vy]).run P w = .ok v' w'/\Rel C (St.put (St.put { σ with bl:=σ.bl.set k ⟨B.t,B.sz,B.n+m,B.u+1,0,appF B.n B.f fy⟩ } (some d) (.c (.gs k (u+1)))) (some s) (.c (keepC alias k u B.sz c B.f))) (a.put (some d) v') w':=by
 obtain⟨v',w',r1,l,l',h1,e1,e2,⟨s1,s2,s3,s4⟩,r3,r4,r8,r9⟩:=app_coreK (P:=P) (ty:=ty) hs hN hdf hf hB hu h0 hvx hvy hsrc ht he hte hsz hzl hpos hzU hby hmax hone (dst:=some d) hd
 have hkl:k<ρ.length:=(List.getElem?_eq_some_iff.1 h1).1
 have hkb:k<σ.bl.length:=(List.getElem?_eq_some_iff.1 hB).1
 obtain⟨g0,g1⟩:=hs.at_ k l B h1 hB (by omega)
 -- what the slot holds
 have hv:=hf s
 rw[hsl]at hv
 obtain⟨l1,q1,q2,q3⟩:=hv
 rw[h1]at q1
 cases q1
 obtain⟨q4,A,cp,q5,q6,q7⟩:=q3 (by omega)
 have hln:l.n=B.n:=loc_n hs h1 hB (by omega)
 -- the block behind the append
 have hat':(ρ.set k l')[k]? = some l':=List.getElem?_set_self hkl
 have hbl':(σ.bl.set k ⟨B.t,B.sz,B.n+m,B.u+1,0,appF B.n B.f fy⟩)[k]? = some ⟨B.t,B.sz,B.n+m,B.u+1,0,appF B.n B.f fy⟩:=List.getElem?_set_self hkb
 have hput:∀(τ:St) (v:V),(St.put τ (some d) v).bl=τ.bl:=fun τ v=>St.put_bl τ (some d) v
 rw[hput]at s1 s4
 obtain⟨g2,g3⟩:=s1.at_ k l' _ hat' hbl' (Nat.zero_le 1)
 have hln':l'.n=B.n+m:=loc_n s1 hat' hbl' (Nat.zero_le 1)
 have hval:(a.put (some d) v').tmps.getD s undef=a.tmps.getD s undef:=by
  show(a.tmps.setIfInBounds d v').getD s undef=_
  rw[Array.getD_eq_getD_getElem?,Array.getD_eq_getD_getElem?,Array.getElem?_setIfInBounds_ne (fun e=>hds e.symm)]
 have fin:∀ alias:Bool,CRel (Dof C.D0 (ρ.set k l') (σ.bl.set k ⟨B.t,B.sz,B.n+m,B.u+1,0,appF B.n B.f fy⟩)) w' (ρ.set k l') (keepC alias k u B.sz c B.f) (a.tmps.getD s undef)->Rel C (St.put (St.put { σ with bl:=σ.bl.set k ⟨B.t,B.sz,B.n+m,B.u+1,0,appF B.n B.f fy⟩ } (some d) (.c (.gs k (u+1)))) (some s) (.c (keepC alias k u B.sz c B.f))) (a.put (some d) v') w':=fun alias hk=>by
  refine⟨ρ.set k l',by rw[St.put_bl,hput];exact s1,s2,s3,fun t=>?_⟩
  rw[St.put_bl,hput]
  show VRel _ _ _ (upd _ s _ t) _
  unfold upd
  by_cases e:t=s
  ·rw[if_pos e,e,hval]
   exact hk
  ·rw[if_neg e]
   exact s4 t
 rcases r8 with r8 | r8
 ·refine⟨v',w',true,r1,fin true ⟨l',hat',?_,fun _=>⟨by omega,A,cp,q5,q6,fun hn=>?_⟩⟩⟩
  ·show u+1≤l'.u
   rw[g2]
   show u+1≤B.u+1
   omega
  ·obtain⟨b,b1,b2⟩:=q7 hn
   exact⟨b,by rw[r8];exact b1,b2⟩
 ·by_cases hal:l'.b=l.b
  ·refine⟨v',w',true,r1,fin true ⟨l',hat',?_,fun _=>⟨by omega,A,cp,q5,q6,fun hn=>?_⟩⟩⟩
   ·show u+1≤l'.u
    rw[g2]
    show u+1≤B.u+1
    omega
   ·obtain⟨b,b1,b2⟩:=q7 hn
    exact⟨b,by rw[hal];exact b1,b2⟩
  ·refine⟨v',w',false,r1,fin false ⟨A,cp,q5,q6,fun hn=>?_⟩⟩
   obtain⟨b,b1,b2⟩:=q7 hn
   have hlt:b<w.heap.size:=hs.lt (.inr ⟨k,l,B,h1,hB,h0,b1⟩)
   refine⟨b,0*B.sz,b2,Nat.lt_of_lt_of_le hlt r4,?_,fun i j hi hj=>?_⟩
   ·rintro (hx | ⟨k2,l2,B2,t1,t2,t3,t4⟩)
    ·have t5:=hs.own h1 hB (by omega) b1
     have t6:=hs.d0 b hx
     rcases t5 with t5 | t5
     ·have t5:C.w0.heap.size≤b:=t5
      have:=t6.1
      omega
     ·exact t6.2 t5
    ·by_cases e:k2=k
     ·subst e
      rw[hat']at t1
      cases t1
      exact hal (by rw[t4,b1])
     ·rw[List.getElem?_set_ne (fun h=>e h.symm)]at t1 t2
      exact e (hs.dist k2 k l2 l B2 B b t1 h1 t2 hB (by omega) (by omega) t4 b1)
   ·rcases g1 with⟨g4,_,_⟩ | ⟨b',cap,cs,g4,g5,g6,g7,g8,g9,g10,g11⟩
    ·omega
    ·rw[g4]at b1
     cases b1
     obtain⟨x,hx,hxr⟩:=g11 i j (by omega) hj
     rw[if_pos h0]at hxr
     refine⟨x,?_,(hxr.clos (ρ':=[]) (hcl i j hi hj)).step ⟨r4,fun y hy _=>r8 y hy⟩ (fun y hy hD=>?_) (LocsLe.refl _)⟩
     ·rw[Nat.zero_mul,Nat.zero_add]
      simp only[World.cell?,r8 b hlt,g7]
      simpa using hx
     ·exact r9 y hy hD
end Go.Proofs.YtibaocbpeaejkaaGreat
/- A region with an append, a slot that holds a part of the list remembered. -/
namespace Go.Proofs.YtibaocbpeaejkaaGreat
open Go.RowKit
theorem aops_app {E : Env} (hE : EnvOK E) {C : Ctx} (hC : C.r = E.r) {ops : Array Oper} {Q : Exit → Act → World → Prop} {K : St → Prop} {l2 : List Oper} (hQ : ∀ σ a w, K σ → Rel C σ a w → wpList E.P ops Q l2 a w) :
  ∀(l:List Oper) (σ:St) (a:Act) (w:World),(∀ o∈l,dstOK C.N o.dst)->aops E ops l σ K->Rel C σ a w->wpList E.P ops Q (l++l2) a w
 | [],σ,a,w,_,h,hr=>hQ σ a w h hr
 | o :: rest,σ,a,w,hd,h,hr=>by
  have ih:=fun σ a w=>aops_app (ops:=ops) hE hC hQ rest σ a w (fun o ho=>hd o (by simp[ho]))
  rw[List.cons_append]
  unfold wpList
  simp only[aops]at h
  split at h
  ·rename_i hg
   rw[if_pos (by simp[Region.wanted,hg])]
   exact .inl (aop_sound hE hC h (hd o (by simp)) hr fun σ' a' w' hk hrel=>ih σ' a' w' hk hrel)
  ·rename_i g want hg
   split at h
   ·rename_i d b hgv
    have h:=cs_iff.1 h
    rw[gw_true,gw_false]at h
    obtain⟨hy,hv,hlt,htm⟩:=guard_val (a:=a) (w:=w) hgv (by obtain⟨ρ,hs,hN,hdf,hf⟩:=hr;exact fun d _=>⟨_,ρ,hf d⟩)
    have hwt:Region.wanted o (yielded ops a.tmps)=(b == want):=by
     unfold Region.wanted
     rw[hg]
     simp only[hy]
     rfl
    rw[hwt]
    by_cases e:b=want
    ·rw[if_pos (by simp[e])]
     refine .inl (aop_sound hE hC (h.1 e) (hd o (by simp)) (put_same hr fun D ρ=>?_) fun σ' a' w' hk hrel=>ih σ' a' w' hk hrel)
     rw[hv,e];rfl
    ·have e':b=!want:=by cases b <;> cases want <;> simp_all
     rw[if_neg (by simpa using e)]
     have h2:Rel C (σ.put (some d) (.c (.bool !want))) a w:=put_same hr fun D ρ=>by rw[hv,e'];rfl
     obtain⟨ρ,hs,hN,hdf,hf⟩:=h2
     exact ih _ _ _ (h.2 e') (Rel.put hs hN hdf hf (hd o (by simp)) rfl)
   ·split at h
    ·rename_i hgu
     have hy:=guard_un (a:=a) (w:=w) hgu (by obtain⟨ρ,hs,hN,hdf,hf⟩:=hr;exact fun d _=>⟨_,ρ,hf d⟩)
     have hwt:Region.wanted o (yielded ops a.tmps)=false:=by
      unfold Region.wanted
      rw[hg]
      simp only[hy]
      rfl
     rw[hwt,if_neg (by simp)]
     obtain⟨ρ,hs,hN,hdf,hf⟩:=hr
     exact ih _ _ _ h (Rel.put hs hN hdf hf (hd o (by simp)) rfl)
    ·exact h.elim
structure AppK (E : Env) (o : Oper) (s : Nat) (σ : St) (k u c m d : Nat) (B : Blk) (fy : Nat → Nat → Cell) : Prop where
 op:∃(x y:Operand) (T:TypeId) (ti te:TI),o.op = .call { callee := .builtin .append,args:=#[x,y],argTypes:=#[T,T] }/\E.ty T=some ti/\ti.elem=some B.t/\E.ty B.t=some te/\σ.ev x = .c (.gs k u)/\srcA σ.bl B.sz k (σ.ev y)=some (m,fy)/\te.size=B.sz/\te.zero.length=te.size/\0<te.size/\(E.r=true->te.zero.all Cell.noU=true)/\te.bytes≤8388608
 guard:o.guard=none
 dst:o.dst=some d
 ne:s≠d
 bl:σ.bl[k]? = some B
 ver:B.u=u
 live:B.st=0
 max:B.n+m≤16777216
 one:∀ i j,i<m->j<B.sz->St.one σ.bl (fy i j)=true/\(E.r=true->(fy i j).noU=true)
 part:σ.tm s = .c (.sl k u B.sz 0 c)
 clos:∀ i j,i<c->j<B.sz->(B.f i j).clos=true
def appSt (σ:St) (s k u c m d:Nat) (B:Blk) (fy:Nat->Nat->Cell) (alias:Bool):St:=St.put (St.put { σ with bl:=σ.bl.set k ⟨B.t,B.sz,B.n+m,B.u+1,0,appF B.n B.f fy⟩ } (some d) (.c (.gs k (u+1)))) (some s) (.c (keepC alias k u B.sz c B.f))
theorem appK_sound {E : Env} (hE : EnvOK E) {C : Ctx} (hC : C.r = E.r) {o : Oper} {σ : St} {a : Act} {w : World} {s k u c m d : Nat} {B : Blk} {fy : Nat → Nat → Cell} (h : AppK E o s σ k u c m d B fy) (hd : dstOK C.N o.dst) (hr : Rel C σ a w) {next : Act → World → Prop} {Q : Exit → Act → World → Prop}
  (hn:∀ alias a' w',Rel C (appSt σ s k u c m d B fy alias) a' w'->next a' w'):o.wp E.P a w next Q:=by
 obtain⟨x,y,T,ti,te,hx,t1,t2,t3,t4,t5,t6,t7,t8,t9,t10⟩:=h.op
 obtain⟨ρ,hs,hN,hdf,hf⟩:=hr
 have hvx:=ev_rel hf x
 rw[t4]at hvx
 have hti:=hE.ty _ _ t1
 obtain⟨v',w',al,p1,p2⟩:=app_keep (P:=E.P) (ty:=o.type) hs hN hdf hf h.bl h.ver h.live hvx (ev_rel hf y) t5 hti t2 (hE.ty _ _ t3) t6 t7 t8 (fun hr=>t9 (by rw[← hC];exact hr)) t10 h.max (fun i j hi hj=>⟨(h.one i j hi hj).1,fun hr=>(h.one i j hi hj).2 (by rw[← hC];exact hr)⟩) (by rw[← h.dst];exact hd) h.ne h.part h.clos
 unfold Oper.wp execOp
 simp only[hx,resolve,invoke,builtin,Sem.run_bind,Sem.run_pure,Result.andThen_ok,List.map_toArray,List.map_cons,List.map_nil,p1]
 show next (a.put o.dst v') w'
 rw[h.dst]
 exact hn al _ _ p2
theorem swp_keep {E : Env} (hE : EnvOK E) {N id : Nat} {ops : Array Oper} {pre post : List Oper} {o : Oper} {s : Nat} (hl : ops.toList = pre ++ o :: post) (hdst : (ops.toList.all (dstB N)) = true) {σ : St} {R : Exit → St → Prop}
  (h:aops E ops pre σ fun τ=>∃ k u c m d B fy,AppK E o s τ k u c m d B fy/\∀ alias,aops E ops post (appSt τ s k u c m d B fy alias) (R .normal)):Swp E N (.region id ops false) σ R:=by
 refine⟨fun C a w h1 h2 h3 hr=>?_⟩
 have hdo:∀ o'∈ops.toList,dstOK C.N o'.dst:=by
  intro o' ho d hd'
  have:=List.all_eq_true.1 hdst o' ho
  unfold dstB at this
  rw[hd']at this
  rw[h3]
  simpa using this
 refine wp_region_list ?_
 rw[hl]at hdo ⊢
 refine aops_app hE h1 (fun τ a w hk hrel=>?_) pre σ a w (fun o' ho=>hdo o' (by simp[ho])) h hr
 obtain⟨k,u,c,m,d,B,fy,hK,hrest⟩:=hk
 unfold wpList
 rw[if_pos (by simp[Region.wanted,hK.guard])]
 refine .inl (appK_sound hE h1 hK (hdo o (by simp)) hrel fun al a' w' hrel'=>?_)
 exact aops_sound hE h1 (fun σ a w hk hrel=>⟨σ,hrel,hk⟩) post _ a' w' (fun o' ho=>hdo o' (by simp[ho])) (hrest al) hrel'
end Go.Proofs.YtibaocbpeaejkaaGreat
/- Blocks told anew in place, the first of them kept as it lies. -/
namespace Go.Proofs.YtibaocbpeaejkaaGreat
open Go.RowKit
theorem genE {tm : Nat → V} {bl : List Blk} {tl : List (Nat × V)} {xs : List Gx} (pre : List Blk) (hpre : bl.take pre.length = pre) (hst2 : pre.all (fun B => Nat.ble 2 B.st) = true) (ks : List (Option Nat)) (hi : injK ks = true) (hb : srcsG pre.length bl ks ks xs) (hl : allP tl fun p => regV pre.length bl ks (tm p.1) p.2) {C : Ctx} {a : Act} {w : World} {ρ : List Loc} (hs : Sat C.D0 C.w0 C.r ρ bl w) (hf : ∀ t, VRel (Dof C.D0 ρ bl) w ρ (tm t) (a.tmps.getD t undef)) :
  Sat C.D0 C.w0 C.r (ρ.take pre.length++ks.map (locK ρ)) (pre++xs.map gb) w/\∀ t,VRel (Dof C.D0 (ρ.take pre.length++ks.map (locK ρ)) (pre++xs.map gb)) w (ρ.take pre.length++ks.map (locK ρ)) (asg tl t) (a.tmps.getD t undef):=by
 obtain⟨hlen,hget⟩:=srcsG_get hb
 have hlb:bl.length=ρ.length:=hs.len.symm
 have hq:pre.length≤ρ.length:=by
  have:=congrArg List.length hpre
  rw[List.length_take]at this
  omega
 have hql:(ρ.take pre.length).length=pre.length:=by rw[List.length_take];omega
 have get:∀(j:Nat) (l:Loc) (B:Blk),(ρ.take pre.length++ks.map (locK ρ))[j]? = some l->(pre++xs.map gb)[j]? = some B->2≤B.st∨pre.length≤j/\((∃(k:Nat) (lk:Loc) (Bk:Blk),ks[j-pre.length]? = some (some k)/\ρ[k]? = some lk/\bl[k]? = some Bk/\l={ lk with u:=0 }/\B.t=Bk.t/\B.sz=Bk.sz/\B.n=Bk.n/\Bk.st=0/\B.st=0/\B.u=0/\∀ i j,i<B.n->j<B.sz->regC pre.length bl ks (B.f i j) fun y=>Bk.f i j=y)∨(l=⟨0,none,0,0⟩/\B.n=0/\B.u=0)):=by
  intro j l B e1 e2
  rcases Nat.lt_or_ge j pre.length with hj | hj
  ·left
   rw[List.getElem?_append_left hj]at e2
   exact Nat.le_of_ble_eq_true (List.all_eq_true.1 hst2 B (List.mem_of_getElem? e2))
  right
  refine⟨hj,?_⟩
  rw[List.getElem?_append_right (by omega),hql,List.getElem?_map]at e1
  rw[List.getElem?_append_right hj,List.getElem?_map]at e2
  cases hx:xs[j-pre.length]? with
  | none=>rw[hx]at e2;cases e2
  | some x =>
   rw[hx]at e2
   simp at e2
   obtain⟨k,hk,hsrc⟩:=hget _ x hx
   rw[hk]at e1
   simp at e1
   subst e1 e2
   cases k with
   | none=>exact .inr ⟨rfl,hsrc,rfl⟩
   | some k =>
    obtain⟨Bk,q1,q2,q3,q4,q5,q6⟩:=hsrc
    have hkl:k<ρ.length:=by rw[hs.len];exact(List.getElem?_eq_some_iff.1 q1).1
    refine .inl ⟨k,ρ[k],Bk,hk,List.getElem?_eq_getElem hkl,q1,?_,q2.symm,q3.symm,q4.symm,q5,rfl,rfl,q6⟩
    simp[locK,List.getD,List.getElem?_eq_getElem hkl]
 have hD:∀ b,Dof C.D0 (ρ.take pre.length++ks.map (locK ρ)) (pre++xs.map gb) b->Dof C.D0 ρ bl b:=by
  rintro b (hx | ⟨j,l,B,e1,e2,e3,e4⟩)
  ·exact .inl hx
  ·rcases get j l B e1 e2 with q0 | ⟨_,⟨k,lk,Bk,q1,q2,q3,q4,q5,q6,q7,q8,q9,q10⟩ | ⟨q1,q2⟩⟩
   ·omega
   ·subst q4
    exact .inr ⟨k,lk,Bk,q2,q3,q8,e4⟩
   ·subst q1;cases e4
 have at_j:∀ j k,pre.length.ble j=true->ks[j-pre.length]? = some k->(ρ.take pre.length++ks.map (locK ρ))[j]? = some (locK ρ k):=fun j k h1 h2=>by
  have:=Nat.le_of_ble_eq_true h1
  rw[List.getElem?_append_right (by omega),hql,List.getElem?_map,h2];rfl
 have out:∀(k:Nat) (l:Loc) (B:Blk) (b:Nat),ρ[k]? = some l->bl[k]? = some B->B.st≤1->l.b=some b->pre.length.ble k=true->(ks.any fun x=>x == some k)=false->¬ Dof C.D0 (ρ.take pre.length++ks.map (locK ρ)) (pre++xs.map gb) b:=by
  rintro k l B b p1 p2 p3 p4 p5 p6 (hx | ⟨j,l',B',e1,e2,e3,e4⟩)
  ·have h1:=hs.own p1 p2 p3 p4
   have h2:=hs.d0 b hx
   rcases h1 with h1 | h1
   ·have:=h2.1
    have h3:C.w0.heap.size≤b:=h1
    omega
   ·exact h2.2 h1
  ·rcases get j l' B' e1 e2 with q0 | ⟨_,⟨k',lk,Bk,q1,q2,q3,q4,q5,q6,q7,q8,q9,q10⟩ | ⟨q1,q2⟩⟩
   ·omega
   ·subst q4
    have:=hs.dist k k' l lk B Bk b p1 q2 p2 q3 p3 (by omega) p4 e4
    subst this
    have:=List.any_eq_false.1 p6 (some k) (List.mem_of_getElem? q1)
    simp at this
   ·subst q1;cases e4
 refine⟨⟨hs.below,hs.d0,by rw[List.length_append,hql];simp[hlen],fun j l B e1 e2 hst=>?_,fun i j li lj Bi Bj b e1 e2 e3 e4 e5 e6 e7 e8=>?_,fun hr b o d hb=>hs.noU hr b o d (hD b hb)⟩,fun t=>?_⟩
 ·rcases get j l B e1 e2 with q0 | ⟨_,⟨k,lk,Bk,q1,q2,q3,q4,q5,q6,q7,q8,q9,q10,q11⟩ | ⟨q1,q2,q3⟩⟩
  ·omega
  ·subst q4
   refine⟨q10.symm,?_⟩
   rcases(hs.at_ k lk Bk q2 q3 (by omega)).2 with⟨g1,g2,g3⟩ | ⟨b,cap,cs,g2,g3,g4,g5,g6,g7,g8,g9⟩
   ·exact .inl ⟨q7.trans g1,g2,g3⟩
   ·refine .inr ⟨b,cap,cs,g2,g3,by rw[q7];exact g4,by rw[q5];exact g5,by rw[q6];exact g6,by rw[q7];exact g7,g8,fun x y hx hy=>?_⟩
    obtain⟨u,hu,hur⟩:=g9 x y (by omega) (by omega)
    refine⟨u,by rw[q6];exact hu,?_⟩
    rw[if_pos q8]at hur
    rw[if_pos q9]
    exact regC_rel hs hD at_j out (q11 x y hx hy) fun z hz=>by subst hz;exact hur
  ·subst q1
   exact⟨q3.symm,.inl ⟨q2,rfl,rfl⟩⟩
 ·rcases get i li Bi e1 e3 with q0 | ⟨hi1,⟨k,lk,Bk,q1,q2,q3,q4,q5,q6,q7,q8,q9,q10⟩ | ⟨q1,q2⟩⟩
  ·omega
  ·rcases get j lj Bj e2 e4 with p0 | ⟨hj1,⟨k',lk',Bk',p1,p2,p3,p4,p5,p6,p7,p8,p9,p10⟩ | ⟨p1,p2⟩⟩
   ·omega
   ·subst q4 p4
    have:=hs.dist k k' lk lk' Bk Bk' b q2 p2 q3 p3 (by omega) (by omega) e7 e8
    subst this
    have:=injK_eq hi q1 p1
    omega
   ·subst p1;cases e8
  ·subst q1;cases e7
 ·rcases asg_mem tl t with e | e
  ·show VRel _ _ _ (asg tl t) _
   rw[e];trivial
  ·have e1:=allP_mem hl _ e
   have e2:VRel (Dof C.D0 ρ bl) w ρ (tm t) (a.tmps.getD t undef):=hf t
   show VRel _ _ _ (asg tl t) _
   generalize asg tl t=y at e1 ⊢
   have e1:regV pre.length bl ks (tm t) y:=e1
   have fin:∀ y:V,tm t=y/\y.clos=true->VRel (Dof C.D0 (ρ.take pre.length++ks.map (locK ρ)) (pre++xs.map gb)) w (ρ.take pre.length++ks.map (locK ρ)) y (a.tmps.getD t undef):=fun y h=>by
    rw[h.1]at e2
    exact(e2.clos h.2).step (Ext.refl _ _) (fun b _ hb=>hD b hb) (LocsLe.refl _)
   match y,e1 with
   | .c y,e1 =>
    exact regC_rel hs hD at_j out e1 fun x hx=>by
     have hx:tm t = .c x:=hx
     rw[hx]at e2
     exact e2
   | .g l,e1 =>
    rcases e1 with⟨h1,h2⟩ | ⟨l',h1,h2⟩
    ·exact fin _ ⟨h1,h2⟩
    ·rw[h1]at e2
     obtain⟨vs,h3,h4⟩:=e2
     exact⟨vs,h3,regL_rel hs hD at_j out h2 h4⟩
   | .t2 ..,e1=>exact fin _ e1
   | .t3 ..,e1=>exact fin _ e1
   | .t4 ..,e1=>exact fin _ e1
   | .un,e1=>exact fin _ e1
theorem Weak.gen2 {tm:Nat->V} {bl:List Blk} {tl:List (Nat × V)} {xs:List Gx} (ks:List (Option Nat)) (h0:∃ B,bl[0]? = some B/\B.u=0/\B.st=0) (hi:injK (some 0 :: ks)=true) (hb:srcsG 0 bl (some 0 :: ks) (some 0 :: ks) xs) (hl:allP tl fun p=>regV 0 bl (some 0 :: ks) (tm p.1) p.2):Weak 1 ⟨tm,bl⟩ (gst tl xs):=by
 rintro C a w hm0 ⟨ρ,hs,hN,hdf,hf⟩
 obtain⟨g1,g2⟩:=genE [] rfl rfl (some 0 :: ks) hi hb hl hs hf
 refine⟨_,g1,⟨hN.1,fun k l h=>?_⟩,hdf,g2⟩
 obtain⟨l',h1,h2⟩:=hN.2 k l h
 have hk:k<1:=Nat.lt_of_lt_of_le (List.getElem?_eq_some_iff.1 h).1 hm0
 obtain rfl:=Nat.lt_one_iff.1 hk
 obtain⟨B,a3,a4,a5⟩:=h0
 have e1:=(hs.at_ 0 l' B h1 a3 (by omega)).1
 refine⟨l',?_,h2⟩
 show some (locK ρ (some 0))=some l'
 simp only[locK,List.getD,h1,Option.getD_some]
 rw[a4]at e1
 rw[← e1]
end Go.Proofs.YtibaocbpeaejkaaGreat
/- The closure of arith.Divisors: a list of numbers, longer by its multiples. -/
namespace Go.Proofs.YtibaocbpeaejkaaGreat
open Go.RowKit
theorem Swp.weak {E:Env} {N:Nat} {c:Code} {σ σ2:St} {R:Exit->St->Prop} (hw:Weak E.m0 σ σ2) (h:Swp E N c σ2 R):Swp E N c σ R:=⟨fun C a w h1 h2 h3 hr=>h.run C a w h1 h2 h3 (hw C a w h2 hr)⟩
namespace Dv
def F (n:Nat) (f:Nat->Int) (p:Int) (i:Nat):Int:=f (i%n)*p^(i / n)
theorem F_low {n i:Nat} {f:Nat->Int} {p:Int} (h:i<n):F n f p i=f i:=by
 unfold F
 rw[Nat.mod_eq_of_lt h,Nat.div_eq_of_lt h,Int.pow_zero,Int.mul_one]
theorem F_next {n t q:Nat} {f:Nat->Int} {p:Int} (h:t<n):F n f p (n*(q+1)+t)=F n f p t*p^(q+1):=by
 rw[F_low h]
 unfold F
 rw[Nat.mul_add_mod,Nat.mod_eq_of_lt h,Nat.mul_add_div (by omega),Nat.div_eq_of_lt h,Nat.add_zero]
abbrev gI (n:Nat) (g:Nat->Int):Gx:=⟨3,1,n,fun i _ => .int .i64 (g i)⟩
abbrev gBox:Gx:=⟨23,1,1,fun _ _ => .gs 1 0⟩
abbrev kC (n:Nat) (g:Nat->Int) (al:Bool):Cell:=match al with
 | true => .sl 1 0 1 0 n
 | false => .row 1 n fun i _ => .int .i64 (g i)
abbrev sO (n:Nat) (g:Nat->Int) (p e:Int) (q:Nat):St:=gst [(0,.c (.int .i64 p)),(1,.c (.int .i64 (e-q))),(2,.c (.p 0 0 1 0 0)),(5,.c (.int .i64 n)),(6,.c (.int .i64 (p^(q+1))))] [gBox,gI (n*(q+1)) g]
abbrev sI (n:Nat) (g:Nat->Int) (p e:Int) (q t:Nat) (al:Bool):St:=gst [(0,.c (.int .i64 p)),(1,.c (.int .i64 (e-q))),(2,.c (.p 0 0 1 0 0)),(5,.c (.int .i64 n)),(6,.c (.int .i64 (p^(q+1)))),(21,.c (kC n g al)),(22,.c (.int .i64 n)),(23,.c (.int .i64 t))] [gBox,gI (n*(q+1)+t) g]
abbrev sJ (n:Nat) (g:Nat->Int) (p e:Int) (q t:Nat) (al:Bool):St:=gst [(0,.c (.int .i64 p)),(1,.c (.int .i64 (e-q))),(2,.c (.p 0 0 1 0 0)),(5,.c (.int .i64 n)),(6,.c (.int .i64 (p^(q+1)))),(8,.c (.int .i64 (g t))),(21,.c (kC n g al)),(22,.c (.int .i64 n)),(23,.c (.int .i64 t))] [gBox,gI (n*(q+1)+t) g]
abbrev sK (n:Nat) (g:Nat->Int) (p e:Int) (q t:Nat) (al:Bool):St:=gst [(0,.c (.int .i64 p)),(1,.c (.int .i64 (e-q))),(2,.c (.p 0 0 1 0 0)),(5,.c (.int .i64 n)),(6,.c (.int .i64 (p^(q+1)))),(21,.c (kC n g al)),(22,.c (.int .i64 n)),(23,.c (.int .i64 t))] [gBox,gI (n*(q+1)+(t+1)) g]
theorem app_int {n q t:Nat} {g:Nat->Int} {x:Int} (hx:x=g (n*(q+1)+t)) (i j:Nat) (hi:i<n*(q+1)+(t+1)) (hj:j<1):appF (n*(q+1)+t) (fun i _ => .int .i64 (g i)) (rowF 1 [.int .i64 x]) i j = .int .i64 (g i):=by
 obtain rfl:=Nat.lt_one_iff.1 hj
 unfold appF
 split
 ·rfl
 ·rename_i c
  have e:i=n*(q+1)+t:=by omega
  rw[e,Nat.sub_self,hx]
  rfl
theorem one1 {bl:List Blk} {x:Int} (i j:Nat) (hi:i<1) (hj:j<1):St.one bl (rowF 1 [.int .i64 x] i j)=true/\(E0m.r=true->(rowF 1 [Cell.int .i64 x] i j).noU=true):=by
 obtain rfl:=Nat.lt_one_iff.1 hi
 obtain rfl:=Nat.lt_one_iff.1 hj
 exact⟨rfl,fun _=>rfl⟩
theorem upd1 {f:Nat->Nat->Cell} {x:Cell} {i j:Nat} (hi:i<1) (hj:j<1):updF f 0 0 [x] i j=x:=by
 obtain rfl:=Nat.lt_one_iff.1 hi
 obtain rfl:=Nat.lt_one_iff.1 hj
 rfl
structure Bds (n : Nat) (f : Nat → Int) (p e : Int) : Prop where
 pos:1≤n
 low:n≤1000
 e0:0≤e
 e1:e≤1000
 num:∀ i q:Nat,i<n->(q:Int)<e->inR .i64 (F n f p i*p^(q+1))
 pow:∀ q:Nat,(q:Int)<e->inR .i64 (p^(q+1)*p)
set_option maxHeartbeats 4000000 in
theorem div_swp {n : Nat} {f : Nat → Int} {p e : Int} (hb : Bds n f p e) (c : Code) (hc : Tryz.f74.body = some c) :
  Swp E0m 34 c (gst [(0,.c (.int .i64 p)),(1,.c (.int .i64 e)),(2,.c (.p 0 0 1 0 0))] [gBox,gI n (F n f p)]) fun x σ=>(x = .normal∨x = .ret)/\Weak 1 σ (gst [] [gBox,gI (n*(e.toNat+1)) (F n f p)]):=by
 obtain rfl:=Option.some.inj hc.symm
 obtain⟨h1,h2,h3,h4,h5,h6⟩:=hb
 have hF:∀ q t:Nat,t<n->F n f p t*p^(q+1)=F n f p (n*(q+1)+t):=fun q t ht=>(F_next ht).symm
 generalize F n f p=g at *
 have hN:∀ q:Nat,(q:Int)≤e->n*(q+1)≤1001000:=fun q hq=>Nat.le_trans (Nat.mul_le_mul h2 (show q+1≤1001 by omega)) (by decide)
 have p1:p=p^(0+1):=by rw[Nat.zero_add,Int.pow_succ,Int.pow_zero,Int.one_mul]
 have n1:n=n*(0+1):=by rw[Nat.zero_add,Nat.mul_one]
 refine swp_seq0 E0m_ok mixed (by kernel_rfl) ?_
 conv=>whnf
 refine swp_seq0 E0m_ok mixed (by kernel_rfl) ?_
 conv=>whnf
 refine swp_block ?_
 refine swp_loop (fun q:Nat=>sO n g p e q) (fun q=>e.toNat-q) (fun q=>(q:Int)≤e) 0 ?_ (by omega) fun q hq=>?_
 ·exact Weak.gen2 [some 1] ⟨_,rfl,rfl,rfl⟩ rfl ⟨⟨_,rfl,rfl,rfl,rfl,rfl,fun i j hi hj=>⟨_,rfl,rfl,rfl⟩⟩,⟨_,rfl,rfl,rfl,n1,rfl,fun i j hi hj=>regE rfl rfl⟩,trivial⟩ ⟨⟨_,rfl,rfl⟩,⟨_,rfl,by show e=e-((0:Nat):Int);omega⟩,⟨_,rfl,rfl,rfl⟩,⟨_,rfl,rfl⟩,⟨_,rfl,p1⟩,trivial⟩
 have hN:=hN q hq
 have hF:=hF q
 have h5:=fun i a b=>h5 i q a b
 have h6:=h6 q
 refine swp_seq0 E0m_ok mixed (by kernel_rfl) ?_
 conv=>whnf
 refine bcase (fun(h:decide ((0:Int)<e-(q:Int))=true)=>?_) fun(h:decide ((0:Int)<e-(q:Int))=false)=>?_
 ·have h:=of_decide_eq_true h
  have h6:=h6 (by omega)
  have hn1:n≤n*(q+1):=Nat.le_mul_of_pos_right n (by omega)
  have hn2:(n:Int)≤((n*(q+1):Nat):Int):=by exact_mod_cast hn1
  conv=>whnf
  refine swp_seqS (swp_block ?_)
  refine swp_seq E0m_ok mixed (by kernel_rfl) ?_
  conv=>whnf
  refine⟨by omega,by omega,?_⟩
  conv=>whnf
  refine⟨hn2,?_⟩
  conv=>whnf
  refine⟨sI n g p e q 0 true,Weak.gen2 [some 1] ⟨_,rfl,rfl,rfl⟩ rfl ⟨⟨_,rfl,rfl,rfl,rfl,rfl,fun i j hi hj=>⟨_,rfl,rfl,rfl⟩⟩,⟨_,rfl,rfl,rfl,rfl,rfl,fun i j hi hj=>regE rfl rfl⟩,trivial⟩ ⟨⟨_,rfl,rfl⟩,⟨_,rfl,rfl⟩,⟨_,rfl,rfl,rfl⟩,⟨_,rfl,rfl⟩,⟨_,rfl,rfl⟩,⟨_,_,rfl,rfl,rfl,by omega⟩,⟨_,rfl,by omega⟩,⟨_,rfl,rfl⟩,trivial⟩,?_⟩
  refine swp_block ?_
  refine swp_loop (fun x:Nat × Bool=>sI n g p e q x.1 x.2) (fun x=>n-x.1) (fun x=>x.1≤n) (0,true) (Weak.refl _) (Nat.zero_le _) ?_
  rintro ⟨t,al⟩ ht
  have ht:t≤n:=ht
  have hF:=hF t
  have h5:=h5 t
  refine swp_seq0 E0m_ok mixed (by kernel_rfl) ?_
  conv=>whnf
  refine swp_seq0 E0m_ok mixed (by kernel_rfl) ?_
  conv=>whnf
  refine bcase (fun(k:decide ((t:Int)<n)=true)=>?_) fun(k:decide ((t:Int)<n)=false)=>?_
  ·have k:=of_decide_eq_true k
   have hF:=hF (by omega)
   have h5:=h5 (by omega) (by omega)
   conv=>whnf
   refine swp_seqS (swp_block ?_)
   have eq8:g (0+((t:Nat):Int).toNat)=g t:=by rw[Int.toNat_natCast,Nat.zero_add]
   have hl:n*(q+1)+t+1≤16777216:=by omega
   have hm1:n-(t+1)<n-t:=by omega
   have hm2:t+1≤n:=by omega
   cases al
   ·refine swp_seq E0m_ok mixed (by kernel_rfl) ?_
    conv=>whnf
    refine⟨Int.natCast_nonneg t,k,?_⟩
    conv=>whnf
    refine⟨sJ n g p e q t false,Weak.gen2 [some 1] ⟨_,rfl,rfl,rfl⟩ rfl ⟨⟨_,rfl,rfl,rfl,rfl,rfl,fun i j hi hj=>⟨_,rfl,rfl,rfl⟩⟩,⟨_,rfl,rfl,rfl,rfl,rfl,fun i j hi hj=>regE rfl rfl⟩,trivial⟩ ⟨⟨_,rfl,rfl⟩,⟨_,rfl,rfl⟩,⟨_,rfl,rfl,rfl⟩,⟨_,rfl,rfl⟩,⟨_,rfl,rfl⟩,⟨_,rfl,rfl⟩,.inl ⟨_,_,rfl,rfl,fun _ _ _ _=>rfl⟩,⟨_,rfl,rfl⟩,⟨_,rfl,rfl⟩,trivial⟩,?_⟩
    refine swp_of E0m_ok mixed (by kernel_rfl) ?_
    conv=>whnf
    refine⟨h5,?_⟩
    conv=>whnf
    refine⟨hl,?_⟩
    conv=>whnf
    refine⟨fun i j hi hj=>one1 i j hi hj,?_⟩
    conv=>whnf
    refine Swp.weak (σ2:=sK n g p e q t false) (Weak.gen2 [some 1] ⟨_,rfl,rfl,rfl⟩ rfl ⟨⟨_,rfl,rfl,rfl,rfl,rfl,fun i j hi hj=>⟨_,rfl,upd1 hi hj,rfl⟩⟩,⟨_,rfl,rfl,rfl,rfl,rfl,fun i j hi hj=>regE (app_int hF i j hi hj) rfl⟩,trivial⟩ ⟨⟨_,rfl,rfl⟩,⟨_,rfl,rfl⟩,⟨_,rfl,rfl,rfl⟩,⟨_,rfl,rfl⟩,⟨_,rfl,rfl⟩,.inl ⟨_,_,rfl,rfl,fun _ _ _ _=>rfl⟩,⟨_,rfl,rfl⟩,⟨_,rfl,rfl⟩,trivial⟩) ?_
    refine swp_of E0m_ok mixed (by kernel_rfl) ?_
    conv=>whnf
    refine⟨⟨by omega,by omega⟩,?_⟩
    conv=>whnf
    exact⟨(t+1,false),hm1,Weak.gen2 [some 1] ⟨_,rfl,rfl,rfl⟩ rfl ⟨⟨_,rfl,rfl,rfl,rfl,rfl,fun i j hi hj=>⟨_,rfl,rfl,rfl⟩⟩,⟨_,rfl,rfl,rfl,rfl,rfl,fun i j hi hj=>regE rfl rfl⟩,trivial⟩ ⟨⟨_,rfl,rfl⟩,⟨_,rfl,rfl⟩,⟨_,rfl,rfl,rfl⟩,⟨_,rfl,rfl⟩,⟨_,rfl,rfl⟩,.inl ⟨_,_,rfl,rfl,fun _ _ _ _=>rfl⟩,⟨_,rfl,rfl⟩,⟨_,rfl,rfl⟩,trivial⟩,hm2⟩
   ·refine swp_seq E0m_ok mixed (by kernel_rfl) ?_
    conv=>whnf
    refine⟨Int.natCast_nonneg t,k,?_⟩
    conv=>whnf
    refine⟨sJ n g p e q t true,Weak.gen2 [some 1] ⟨_,rfl,rfl,rfl⟩ rfl ⟨⟨_,rfl,rfl,rfl,rfl,rfl,fun i j hi hj=>⟨_,rfl,rfl,rfl⟩⟩,⟨_,rfl,rfl,rfl,rfl,rfl,fun i j hi hj=>regE rfl rfl⟩,trivial⟩ ⟨⟨_,rfl,rfl⟩,⟨_,rfl,rfl⟩,⟨_,rfl,rfl,rfl⟩,⟨_,rfl,rfl⟩,⟨_,rfl,rfl⟩,⟨_,rfl,eq8⟩,⟨_,_,rfl,rfl,rfl,rfl⟩,⟨_,rfl,rfl⟩,⟨_,rfl,rfl⟩,trivial⟩,?_⟩
    refine swp_keep E0m_ok (pre:=[_,_,_,_,_]) (post:=[_]) (s:=21) rfl (by kernel_rfl) ?_
    conv=>whnf
    refine⟨h5,?_⟩
    conv=>whnf
    refine⟨1,0,n,1,32,_,_,⟨⟨_,_,_,_,_,rfl,rfl,rfl,rfl,rfl,rfl,rfl,rfl,by decide,fun _=>rfl,by decide⟩,rfl,rfl,by decide,rfl,rfl,rfl,?_,fun i j hi hj=>?_,rfl,fun i j hi hj=>rfl⟩,fun al=>?_⟩
    ·exact hl
    ·exact one1 i j hi hj
    ·cases al
     ·conv=>whnf
      refine Swp.weak (σ2:=sK n g p e q t false) (Weak.gen2 [some 1] ⟨_,rfl,rfl,rfl⟩ rfl ⟨⟨_,rfl,rfl,rfl,rfl,rfl,fun i j hi hj=>⟨_,rfl,upd1 hi hj,rfl⟩⟩,⟨_,rfl,rfl,rfl,rfl,rfl,fun i j hi hj=>regE (app_int hF i j hi hj) rfl⟩,trivial⟩ ⟨⟨_,rfl,rfl⟩,⟨_,rfl,rfl⟩,⟨_,rfl,rfl,rfl⟩,⟨_,rfl,rfl⟩,⟨_,rfl,rfl⟩,.inl ⟨_,_,rfl,rfl,fun _ _ _ _=>rfl⟩,⟨_,rfl,rfl⟩,⟨_,rfl,rfl⟩,trivial⟩) ?_
      refine swp_of E0m_ok mixed (by kernel_rfl) ?_
      conv=>whnf
      refine⟨⟨by omega,by omega⟩,?_⟩
      conv=>whnf
      exact⟨(t+1,false),hm1,Weak.gen2 [some 1] ⟨_,rfl,rfl,rfl⟩ rfl ⟨⟨_,rfl,rfl,rfl,rfl,rfl,fun i j hi hj=>⟨_,rfl,rfl,rfl⟩⟩,⟨_,rfl,rfl,rfl,rfl,rfl,fun i j hi hj=>regE rfl rfl⟩,trivial⟩ ⟨⟨_,rfl,rfl⟩,⟨_,rfl,rfl⟩,⟨_,rfl,rfl,rfl⟩,⟨_,rfl,rfl⟩,⟨_,rfl,rfl⟩,.inl ⟨_,_,rfl,rfl,fun _ _ _ _=>rfl⟩,⟨_,rfl,rfl⟩,⟨_,rfl,rfl⟩,trivial⟩,hm2⟩
     ·conv=>whnf
      refine Swp.weak (σ2:=sK n g p e q t true) (Weak.gen2 [some 1] ⟨_,rfl,rfl,rfl⟩ rfl ⟨⟨_,rfl,rfl,rfl,rfl,rfl,fun i j hi hj=>⟨_,rfl,upd1 hi hj,rfl⟩⟩,⟨_,rfl,rfl,rfl,rfl,rfl,fun i j hi hj=>regE (app_int hF i j hi hj) rfl⟩,trivial⟩ ⟨⟨_,rfl,rfl⟩,⟨_,rfl,rfl⟩,⟨_,rfl,rfl,rfl⟩,⟨_,rfl,rfl⟩,⟨_,rfl,rfl⟩,⟨_,_,rfl,rfl,rfl,rfl⟩,⟨_,rfl,rfl⟩,⟨_,rfl,rfl⟩,trivial⟩) ?_
      refine swp_of E0m_ok mixed (by kernel_rfl) ?_
      conv=>whnf
      refine⟨⟨by omega,by omega⟩,?_⟩
      conv=>whnf
      exact⟨(t+1,true),hm1,Weak.gen2 [some 1] ⟨_,rfl,rfl,rfl⟩ rfl ⟨⟨_,rfl,rfl,rfl,rfl,rfl,fun i j hi hj=>⟨_,rfl,rfl,rfl⟩⟩,⟨_,rfl,rfl,rfl,rfl,rfl,fun i j hi hj=>regE rfl rfl⟩,trivial⟩ ⟨⟨_,rfl,rfl⟩,⟨_,rfl,rfl⟩,⟨_,rfl,rfl,rfl⟩,⟨_,rfl,rfl⟩,⟨_,rfl,rfl⟩,⟨_,_,rfl,rfl,rfl,rfl⟩,⟨_,rfl,rfl⟩,⟨_,rfl,rfl⟩,trivial⟩,hm2⟩
  ·have k:=of_decide_eq_false k
   have k1:t=n:=by omega
   have e1:n*(q+1)+t=n*(q+1+1):=by rw[k1,Nat.mul_succ n (q+1)]
   have e2:e-(q:Int)-1=e-((q+1:Nat):Int):=by omega
   have e3:p^(q+1)*p=p^(q+1+1):=(Int.pow_succ p (q+1)).symm
   have m1:e.toNat-(q+1)<e.toNat-q:=by omega
   have m2:((q+1:Nat):Int)≤e:=by omega
   conv=>whnf
   refine swp_of E0m_ok mixed (by kernel_rfl) ?_
   conv=>whnf
   refine⟨⟨by omega,by omega⟩,?_⟩
   conv=>whnf
   refine⟨h6,?_⟩
   conv=>whnf
   exact⟨q+1,m1,Weak.gen2 [some 1] ⟨_,rfl,rfl,rfl⟩ rfl ⟨⟨_,rfl,rfl,rfl,rfl,rfl,fun i j hi hj=>⟨_,rfl,rfl,rfl⟩⟩,⟨_,rfl,rfl,rfl,e1,rfl,fun i j hi hj=>regE rfl rfl⟩,trivial⟩ ⟨⟨_,rfl,rfl⟩,⟨_,rfl,e2⟩,⟨_,rfl,rfl,rfl⟩,⟨_,rfl,rfl⟩,⟨_,rfl,e3⟩,trivial⟩,m2⟩
 ·have h:=of_decide_eq_false h
  have e1:q=e.toNat:=by omega
  have e2:n*(q+1)=n*(e.toNat+1):=by rw[e1]
  conv=>whnf
  exact⟨.inl rfl,Weak.gen2 [some 1] ⟨_,rfl,rfl,rfl⟩ rfl ⟨⟨_,rfl,rfl,rfl,rfl,rfl,fun i j hi hj=>⟨_,rfl,rfl,rfl⟩⟩,⟨_,rfl,rfl,rfl,e2,rfl,fun i j hi hj=>regE rfl rfl⟩,trivial⟩ trivial⟩
end Dv
end Go.Proofs.YtibaocbpeaejkaaGreat
/- The closure of arith.Divisors as a contract over its caller's blocks. -/
namespace Go.Proofs.YtibaocbpeaejkaaGreat
open Go.RowKit
namespace Dv
theorem two_back {D0 : Nat → Prop} {w0 : Base} {r : Bool} {w : World} {la l1 : Loc} {Ba Bx : Blk} (v : Nat) (hs : Sat D0 w0 r [l1, la] [Bx, Ba] w) (h1 : Bx.st = 0) (h2 : Ba.st = 0) (h5 : ∀ i j, Bx.f i j = .gs 1 Ba.u) (h6 : ∀ i j, (Ba.f i j).clos = true) :
  Sat D0 w0 r [{ la with u:=v },l1] [{ Ba with u:=v },{ Bx with f:=fun _ _ => .gs 0 v }] w:=by
 have hD:∀ b,Dof D0 [{ la with u:=v },l1] [{ Ba with u:=v },{ Bx with f:=fun _ _ => .gs 0 v }] b->Dof D0 [l1,la] [Bx,Ba] b:=by
  rintro b (h | ⟨k,l,B,e1,e2,e3,e4⟩)
  ·exact .inl h
  ·match k,e1,e2 with
   | 0,e1,e2=>cases e1;cases e2;exact .inr ⟨1,la,Ba,rfl,rfl,h2,e4⟩
   | 1,e1,e2=>cases e1;cases e2;exact .inr ⟨0,l1,Bx,rfl,rfl,h1,e4⟩
   | k+2,e1,_=>simp at e1
 have ha:=hs.at_ 1 la Ba rfl rfl (by omega)
 have hx:=hs.at_ 0 l1 Bx rfl rfl (by omega)
 refine⟨hs.below,hs.d0,rfl,fun k l B e1 e2=>?_,fun i j li lj Bi Bj b e1 e2 e3 e4 e5 e6 e7 e8=>?_,fun hr b o d hb=>hs.noU hr b o d (hD b hb)⟩
 ·match k,e1,e2 with
  | 0,e1,e2 =>
   cases e1;cases e2
   refine fun _=>⟨rfl,?_⟩
   rcases ha.2 with⟨g1,g2,g3⟩ | ⟨b,cap,cs,g2,g3,g4,g5,g6,g7,g8,g9⟩
   ·exact .inl ⟨g1,g2,g3⟩
   ·refine .inr ⟨b,cap,cs,g2,g3,g4,g5,g6,g7,g8,fun i j hi hj=>?_⟩
    obtain⟨u,hu,hr⟩:=g9 i j hi hj
    exact⟨u,hu,(hr.clos (h6 i j)).step (Ext.refl _ _) (fun b _ hb=>hD b hb) (LocsLe.refl _)⟩
  | 1,e1,e2 =>
   cases e1;cases e2
   refine fun _=>⟨hx.1,?_⟩
   rcases hx.2 with⟨g1,g2,g3⟩ | ⟨b,cap,cs,g2,g3,g4,g5,g6,g7,g8,g9⟩
   ·exact .inl ⟨g1,g2,g3⟩
   ·refine .inr ⟨b,cap,cs,g2,g3,g4,g5,g6,g7,g8,fun i j hi hj=>?_⟩
    obtain⟨u,hu,hr⟩:=g9 i j hi hj
    rw[if_pos h1,h5]at hr
    obtain⟨l,q1,q2,q3⟩:=hr
    cases q1
    refine⟨u,hu,?_⟩
    rw[if_pos h1]
    exact⟨_,rfl,Nat.le_refl _,fun _=>q3 ha.1⟩
  | k+2,e1,_=>simp at e1
 ·match i,j,e1,e2,e3,e4 with
  | 0,0,_,_,_,_=>rfl
  | 1,1,_,_,_,_=>rfl
  | 0,1,e1,e2,e3,e4 =>
   cases e1;cases e2;cases e3;cases e4
   have:=hs.dist 1 0 la l1 Ba Bx b rfl rfl rfl rfl (by omega) (by omega) e7 e8
   omega
  | 1,0,e1,e2,e3,e4 =>
   cases e1;cases e2;cases e3;cases e4
   have:=hs.dist 0 1 l1 la Bx Ba b rfl rfl rfl rfl (by omega) (by omega) e7 e8
   omega
  | k+2,_,e1,_,_,_=>simp at e1
  | _,k+2,_,e2,_,_=>simp at e2
theorem frame_rel {D:Nat->Prop} {w:World} {ρ:List Loc} {args:List V} {vs:List Value} {N:Nat} (hargs:VRels D w ρ args vs) (t:Nat):VRel D w ρ (args.getD t (.c .any)) ((vs.toArray++Array.replicate (N-vs.toArray.size) undef).getD t undef):=by
 have hlen:=hargs.length
 have h2:=hargs.get t
 rcases Nat.lt_or_ge t vs.length with hlt | hge
 ·have:(vs.toArray++Array.replicate (N-vs.toArray.size) undef).getD t undef=vs.getD t undef:=by
   rw[Array.getD_eq_getD_getElem?,Array.getElem?_append_left (by simpa using hlt)]
   simp[List.getD]
  rw[this];exact h2
 ·rw[show args.getD t (V.c .any) = .c .any by rw[List.getD,List.getElem?_eq_none (by omega)];rfl]
  trivial
theorem div_fnS {n u : Nat} {f : Nat → Int} {p e : Int} {fA fB : Nat → Nat → Cell} (hb : Bds n f p e) (t5 : ∀ i j, i < n → j < 1 → fA i j = .int .i64 (F n f p i)) (s5 : ∀ i j, i < 1 → j < 1 → fB i j = .gs 0 u) :
  FnS Tryz.prog false 74 [⟨3,1,n,u,0,fA⟩,⟨23,1,1,0,0,fB⟩] [.c (.int .i64 p),.c (.int .i64 e),.c (.p 1 0 1 0 0)] (.c .any) [⟨3,1,n*(e.toNat+1),u+1,0,fun i _ => .int .i64 (F n f p i)⟩,⟨23,1,1,0,0,fun _ _ => .gs 0 (u+1)⟩]:=by
 refine⟨by kernel_rfl,fun D w0 ρ w vs hs hargs=>?_⟩
 obtain⟨c,hc⟩:∃ c,Tryz.f74.body=some c:=⟨_,rfl⟩
 refine calls_of_wp (fn:=Tryz.f74) (c:=c) (Tryz.func74) hc ?_
 have hrl:=hs.len
 match ρ,hs,hargs,hrl with
 | [l0,l1],hs,hargs,_ =>
  have u0:l0.u=u:=(hs.at_ 0 l0 _ rfl rfl (Nat.zero_le 1)).1
  have u1:l1.u=0:=(hs.at_ 1 l1 _ rfl rfl (Nat.zero_le 1)).1
  have el:{ l1 with u:=0 }=l1:=by rw[← u1]
  obtain ⟨g1, g2⟩ := genE (C := ⟨D, w0, false, 34, []⟩) (a := { tmps := vs.toArray ++ Array.replicate (34 - vs.toArray.size) undef, defers := [] }) (tm := fun t => [V.c (.int .i64 p), .c (.int .i64 e), .c (.p 1 0 1 0 0)].getD t (.c .any)) (tl := [(0, .c (.int .i64 p)), (1, .c (.int .i64 e)), (2, .c (.p 0 0 1 0 0))]) (xs := [gBox, gI n (F n f p)]) [] rfl rfl [some 1, some 0] rfl
   ⟨⟨_,rfl,rfl,rfl,rfl,rfl,fun i j hi hj=>⟨_,rfl,s5 i j hi hj,rfl⟩⟩,⟨_,rfl,rfl,rfl,rfl,rfl,fun i j hi hj=>regE (t5 i j hi hj) rfl⟩,trivial⟩ ⟨⟨_,rfl,rfl⟩,⟨_,rfl,rfl⟩,⟨_,rfl,rfl,rfl⟩,trivial⟩ hs (frame_rel hargs)
  have e1:List.take ([]:List Blk).length [l0,l1]++[some 1,some 0].map (locK [l0,l1])=[l1,{ l0 with u:=0 }]:=by
   show [{ l1 with u:=0 },{ l0 with u:=0 }]=_
   rw[el]
  rw[e1]at g1 g2
  have hrel:Rel ⟨D,w0,false,34,[l1]⟩ (gst [(0,.c (.int .i64 p)),(1,.c (.int .i64 e)),(2,.c (.p 0 0 1 0 0))] [gBox,gI n (F n f p)]) { tmps:=vs.toArray++Array.replicate (34-vs.toArray.size) undef,defers:=[] } w :=
   ⟨_,g1,⟨by simp;omega,LocsLe.append [l1] _⟩,rfl,g2⟩
  refine wp_mono ((div_swp hb c hc).run _ _ _ rfl (Nat.le_refl _) rfl hrel) ?_
  rintro x a w' ⟨σ,hr,hx,hw⟩
  obtain⟨ρ2,hs2,hN2,hdf2,hf2⟩:=hw _ a w' (Nat.le_refl _) hr
  have hl2:=hs2.len
  match ρ2,hs2,hN2,hf2,hl2 with
  | [m1,ma],hs2,hN2,hf2,_ =>
   have v1:m1.u=0:=(hs2.at_ 0 m1 _ rfl rfl (Nat.zero_le 1)).1
   obtain⟨l',r1,r2,r3⟩:=hN2.2 0 l1 rfl
   cases r1
   have em:m1=l1:=r2 (by omega)
   obtain⟨y,hy,_⟩:=ret_run (v := .c .any) (fn:=Tryz.f74) E0m_ok hs2 hf2 rfl
   have fin:a.defers=[]/\∃ v,(results Tryz.f74 a.tmps).run Tryz.prog w' = .ok v w'/\∃ y ρ',Ending.returned v = .returned y/\Sat D w0 false ρ' [⟨3,1,n*(e.toNat+1),u+1,0,fun i _ => .int .i64 (F n f p i)⟩,⟨23,1,1,0,0,fun _ _ => .gs 0 (u+1)⟩] w'/\LocsLe [l0,l1] ρ'/\VRel (Dof D ρ' [⟨3,1,n*(e.toNat+1),u+1,0,fun i _ => .int .i64 (F n f p i)⟩,⟨23,1,1,0,0,fun _ _ => .gs 0 (u+1)⟩]) w' ρ' (.c .any) y:=by
    refine⟨hdf2,y,hy,y,_,rfl,two_back (u+1) hs2 rfl rfl (fun _ _=>rfl) (fun _ _=>rfl),fun k l hk=>?_,trivial⟩
    match k,hk with
    | 0,hk =>
     cases hk
     exact⟨_,rfl,fun h=>by have h:u+1=l0.u:=h;omega,by show l0.u≤u+1;omega⟩
    | 1,hk =>
     cases hk
     exact⟨m1,rfl,fun _=>em,by omega⟩
    | k+2,hk=>simp at hk
   rcases hx with rfl | rfl
   ·exact fin
   ·exact fin
end Dv
end Go.Proofs.YtibaocbpeaejkaaGreat
