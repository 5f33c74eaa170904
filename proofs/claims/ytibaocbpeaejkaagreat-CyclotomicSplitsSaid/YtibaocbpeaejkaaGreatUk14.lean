/- The evaluator with a table of calls; the runs of arith.Divisors and what stands on it. -/
import Derived.Test.YtibaocbpeaejkaaGreatUk13
import Derived.Test.YtibaocbpeaejkaaGreatUk6
import Derived.Test.YtibaocbpeaejkaaGreatUk11
import Derived.Test.YtibaocbpeaejkaaGreatUk9
namespace Go.Proofs.YtibaocbpeaejkaaGreat
open Go.RowKit
def clnY (f:FuncId):Bool:=[98].contains f
def opY (E:Env) (q:FuncId->List V->Option V) (qs:FuncId->List Blk->List V->Option (V × List Blk)) (inl:FuncId->Bool) (o:Oper) (σ:St):Option St :=
 match o.op with
 | .call { callee := .value g,args,.. }=>match calleeX σ g with
  | some (f,_)=>match clnY f with
   | true=>opX E q qs inl o (dfzL (args.toList.flatMap fun x=>nmV (σ.ev x)) σ)
   | false=>opX E q qs inl o σ
  | none=>none
 | _=>opX E q qs inl o σ
theorem opY_ok {E:Env} (hE:EnvOK E) {q:FuncId->List V->Option V} {qs:FuncId->List Blk->List V->Option (V × List Blk)} (hq:∀ f ags X,q f ags=some X->FnOK E.P E.r f ags X) (hqs:∀ f bl ags X bl',qs f bl ags=some (X,bl')->FnS E.P E.r f bl ags X bl') {inl:FuncId->Bool} {o:Oper} {σ σ':St} (h:opY E q qs inl o σ=some σ'):OpGo E o σ σ':=by
 unfold opY at h
 split at h
 ·split at h
  ·split at h
   ·exact OpGo.lax (Lax.dfzL _ σ) (opX_ok hE hq hqs h)
   ·exact opX_ok hE hq hqs h
  ·cases h
 ·exact opX_ok hE hq hqs h
def regY (E : Env) (q : FuncId → List V → Option V) (qs : FuncId → List Blk → List V → Option (V × List Blk)) (inl : FuncId → Bool) (ops : Array Oper) : List Oper → St → Option St
 | [],σ=>some σ
 | o :: rest,σ=>match o.guard with
  | none=>match opY E q qs inl o σ with
   | some σ'=>regY E q qs inl ops rest σ'
   | none=>none
  | some (g,want)=>match guardV σ ops g with
   | some (d,b)=>match gw want b with
    | true=>match opY E q qs inl o (σ.put (some d) (.c (.bool want)))with
     | some σ'=>regY E q qs inl ops rest σ'
     | none=>none
    | false=>regY E q qs inl ops rest ((σ.put (some d) (.c (.bool !want))).put o.dst .un)
   | none=>match guardU σ ops g with
    | true=>regY E q qs inl ops rest (σ.put o.dst .un)
    | false=>none
theorem regY_ok {E : Env} (hE : EnvOK E) {q : FuncId → List V → Option V} {qs : FuncId → List Blk → List V → Option (V × List Blk)} (hq : ∀ f ags X, q f ags = some X → FnOK E.P E.r f ags X) (hqs : ∀ f bl ags X bl', qs f bl ags = some (X, bl') → FnS E.P E.r f bl ags X bl') {inl : FuncId → Bool} {ops : Array Oper} {C : Ctx} (hC : C.r = E.r) {Q : Exit → Act → World → Prop} {σ1 : St} (hQ : ∀ a w, Rel C σ1 a w → Q .normal a w) :
  ∀(l:List Oper) (σ:St) (a:Act) (w:World),(∀ o∈l,dstOK C.N o.dst)->regY E q qs inl ops l σ=some σ1->Rel C σ a w->wpList E.P ops Q l a w
 | [],σ,a,w,_,h,hr=>by cases h;exact hQ a w hr
 | o :: rest,σ,a,w,hd,h,hr=>by
  have ih:=fun σ a w=>regY_ok (inl:=inl) (ops:=ops) hE hq hqs hC hQ rest σ a w (fun o ho=>hd o (by simp[ho]))
  unfold wpList
  simp only[regY]at h
  split at h
  ·rename_i hg
   rw[if_pos (by simp[Region.wanted,hg])]
   split at h
   ·rename_i σ2 h2
    exact .inl (opY_ok hE hq hqs h2 hC (hd o (by simp)) hr fun a' w' hrel=>ih σ2 a' w' h hrel)
   ·cases h
  ·rename_i g want hg
   split at h
   ·rename_i d b hgv
    obtain⟨hy,hv,hlt,htm⟩:=guard_val (a:=a) (w:=w) hgv (by obtain⟨ρ,hs,hN,hdf,hf⟩:=hr;exact fun d _=>⟨_,ρ,hf d⟩)
    have hwt:Region.wanted o (yielded ops a.tmps)=(b == want):=by
     unfold Region.wanted
     rw[hg]
     simp only[hy]
     rfl
    rw[hwt]
    split at h
    ·rename_i hb
     have e:=gw_true.1 hb
     rw[if_pos (by simp[e])]
     split at h
     ·rename_i σ2 h2
      refine .inl (opY_ok hE hq hqs h2 hC (hd o (by simp)) (put_same hr fun D ρ=>?_) fun a' w' hrel=>ih σ2 a' w' h hrel)
      rw[hv,e];rfl
     ·cases h
    ·rename_i hb
     have e':=gw_false.1 hb
     have e:¬ b=want:=by rw[e'];cases want <;> simp
     rw[if_neg (by simpa using e)]
     have h2:Rel C (σ.put (some d) (.c (.bool !want))) a w:=put_same hr fun D ρ=>by rw[hv,e'];rfl
     obtain⟨ρ,hs,hN,hdf,hf⟩:=h2
     exact ih _ _ _ h (Rel.put hs hN hdf hf (hd o (by simp)) rfl)
   ·split at h
    ·rename_i hgu
     have hy:=guard_un (a:=a) (w:=w) hgu (by obtain⟨ρ,hs,hN,hdf,hf⟩:=hr;exact fun d _=>⟨_,ρ,hf d⟩)
     have hwt:Region.wanted o (yielded ops a.tmps)=false:=by
      unfold Region.wanted
      rw[hg]
      simp only[hy]
      rfl
     rw[hwt,if_neg (by simp)]
     obtain⟨ρ,hs,hN,hdf,hf⟩:=hr
     exact ih _ _ _ h (Rel.put hs hN hdf hf (hd o (by simp)) rfl)
    ·cases h
def loopY (N : Nat) (body : St → Option (Exit × St)) : Nat → St → Option (Exit × St)
 | 0,_=>none
 | n+1,σ=>fSt N σ fun σ=>match body σ with
  | some (.normal,σ')=>loopY N body n σ'
  | r=>r
def codeY (E : Env) (q : FuncId → List V → Option V) (qs : FuncId → List Blk → List V → Option (V × List Blk)) (inl : FuncId → Bool) (N lf : Nat) : Code → St → Option (Exit × St)
 | .skip,σ=>some (.normal,σ)
 | .region _ ops draw,σ=>match draw with
  | true=>match aheadX E q ops σ.bl.length ops.toList 0 { σ with bl:=σ.bl++List.replicate (freshN ops.toList) phB } with
   | some σ'=>some (.normal,σ')
   | none=>none
  | false=>match regY E q qs inl ops ops.toList σ with
   | some σ'=>some (.normal,σ')
   | none=>none
 | .seq a b,σ=>match codeY E q qs inl N lf a σ with
  | some (.normal,σ')=>codeY E q qs inl N lf b σ'
  | r=>r
 | .cond c x y,σ=>match σ.ev c with
  | .c (.bool true)=>codeY E q qs inl N lf x σ
  | .c (.bool false)=>codeY E q qs inl N lf y σ
  | _=>none
 | .block id c,σ=>match codeY E q qs inl N lf c σ with
  | some (.exit i,σ')=>match Nat.beq i id with
   | true=>some (.normal,σ')
   | false=>some (.exit i,σ')
  | r=>r
 | .exit id,σ=>some (.exit id,σ)
 | .ret,σ=>some (.ret,σ)
 | .label _,σ=>some (.normal,σ)
 | .loop c,σ=>loopY N (codeY E q qs inl N lf c) lf σ
 | _,_=>none
theorem codeY_ok {E : Env} (hE : EnvOK E) {q : FuncId → List V → Option V} {qs : FuncId → List Blk → List V → Option (V × List Blk)} (hq : ∀ f ags X, q f ags = some X → FnOK E.P E.r f ags X) (hqs : ∀ f bl ags X bl', qs f bl ags = some (X, bl') → FnS E.P E.r f bl ags X bl') {inl : FuncId → Bool} {N lf : Nat} (hm : E.P.follows .mixedOrders = true) {C : Ctx} (hC : C.r = E.r) :
  ∀(c:Code) {σ:St} {r:Exit × St} {a:Act} {w:World},codeB C.N c=true->codeY E q qs inl N lf c σ=some r->Rel C σ a w->c.wp E.P (QX C r) a w
 | .skip,σ,r,a,w,_,h,hr=>by cases h;exact wp_skip ⟨rfl,hr⟩
 | .region id ops draw,σ,r,a,w,hc,h,hr=>by
  simp only[codeB,Bool.and_eq_true]at hc
  simp only[codeY]at h
  cases draw with
  | true =>
   simp only at h
   split at h
   ·rename_i σ' h1
    cases h
    refine adraw_sound hE hC (K:=fun s=>s=σ') hm (fun s a w hs hrel=>⟨rfl,by rw[← hs];exact hrel⟩) hc.1 (by simpa using hc.2) ?_ hr
    exact aheadX_ok hq _ _ h1 rfl
   ·cases h
  | false =>
   simp only at h
   split at h
   ·rename_i σ' h1
    cases h
    refine wp_region_list (regY_ok hE hq hqs hC (fun a w hrel=>⟨rfl,hrel⟩) ops.toList σ a w (fun o ho d hd'=>?_) h1 hr)
    have:=List.all_eq_true.1 hc.1 o ho
    unfold dstB at this
    rw[hd']at this
    simpa using this
   ·cases h
 | .seq x y,σ,r,a,w,hc,h,hr=>by
  simp only[codeB,Bool.and_eq_true]at hc
  simp only[codeY]at h
  split at h
  ·rename_i σ' h1
   refine wp_seq (wp_mono (codeY_ok hE hq hqs hm hC x hc.1 h1 hr) ?_)
   rintro e a' w' ⟨rfl,hrel⟩
   exact codeY_ok hE hq hqs hm hC y hc.2 h hrel
  ·rename_i hno
   refine wp_seq (wp_mono (codeY_ok hE hq hqs hm hC x hc.1 h hr) ?_)
   rintro e a' w' ⟨rfl,hrel⟩
   obtain⟨e,σ'⟩:=r
   cases e with
   | normal=>exact absurd h (hno σ')
   | _=>exact⟨rfl,hrel⟩
 | .cond c x y,σ,r,a,w,hc,h,hr=>by
  simp only[codeB,Bool.and_eq_true]at hc
  simp only[codeY]at h
  have he:∀ b,σ.ev c = .c (.bool b)->a.eval c = .bool b:=by
   intro b hb
   obtain⟨ρ,hs,hN,hdf,hf⟩:=hr
   have:=ev_rel hf c
   rw[hb]at this
   exact this
  split at h
  ·rename_i hb
   exact wp_cond_split (he _ hb) (fun _=>codeY_ok hE hq hqs hm hC x hc.1 h hr) (fun e=>by cases e)
  ·rename_i hb
   exact wp_cond_split (he _ hb) (fun e=>by cases e) (fun _=>codeY_ok hE hq hqs hm hC y hc.2 h hr)
  ·cases h
 | .block id c,σ,r,a,w,hc,h,hr=>by
  simp only[codeB]at hc
  simp only[codeY]at h
  split at h
  ·rename_i i σ' h1
   refine wp_block (wp_mono (codeY_ok hE hq hqs hm hC c hc h1 hr) ?_)
   rintro e a' w' ⟨rfl,hrel⟩
   simp only[Exit.inBlock]
   split at h
   ·rename_i hb
    cases h
    rw[if_pos (Nat.eq_of_beq_eq_true hb)]
    exact⟨rfl,hrel⟩
   ·rename_i hb
    cases h
    rw[if_neg (Nat.ne_of_beq_eq_false hb)]
    exact⟨rfl,hrel⟩
  ·rename_i hno
   refine wp_block (wp_mono (codeY_ok hE hq hqs hm hC c hc h hr) ?_)
   rintro e a' w' ⟨rfl,hrel⟩
   obtain⟨e,σ'⟩:=r
   cases e with
   | exit i=>exact absurd h (hno i σ')
   | _=>exact⟨rfl,hrel⟩
 | .exit id,σ,r,a,w,_,h,hr=>by cases h;exact wp_exit ⟨rfl,hr⟩
 | .ret,σ,r,a,w,_,h,hr=>by cases h;exact wp_ret ⟨rfl,hr⟩
 | .label l,σ,r,a,w,_,h,hr=>by cases h;exact wp_label ⟨rfl,hr⟩
 | .loop c,σ,r,a,w,hc,h,hr=>by
  simp only[codeB]at hc
  simp only[codeY]at h
  refine wp_loop_ghost (fun n a w=>∃ σ,Rel C σ a w/\loopY N (codeY E q qs inl N lf c) n σ=some r) lf ⟨σ,hr,h⟩ ?_
  rintro n a w ⟨σ1,hrel,hn⟩
  cases n with
  | zero=>cases hn
  | succ n =>
   simp only[loopY,fSt_eq]at hn
   have hrel2:=Lax.nrm N σ1 C a w hrel
   split at hn
   ·rename_i σ2 h2
    refine wp_mono (codeY_ok hE hq hqs hm hC c hc h2 hrel2) ?_
    rintro e a' w' ⟨rfl,hrel3⟩
    exact⟨n,Nat.lt_succ_self n,σ2,hrel3,hn⟩
   ·rename_i hno
    refine wp_mono (codeY_ok hE hq hqs hm hC c hc hn hrel2) ?_
    rintro e a' w' ⟨rfl,hrel3⟩
    obtain⟨e,σ2⟩:=r
    cases e with
    | normal=>exact absurd hn (hno σ2)
    | _=>exact⟨rfl,hrel3⟩
 | .rangeFunc ..,_,_,_,_,_,h,_=>by cases h
 | .scope _,_,_,_,_,_,h,_=>by cases h
 | .goto _,_,_,_,_,_,h,_=>by cases h
 | .refuse _,_,_,_,_,_,h,_=>by cases h
def runY (E : Env) (orc : FuncId → List V → Option V) (spc : FuncId → List Blk → List V → Option (V × List Blk)) (ok inl : FuncId → Bool) (lf : Nat) : Nat → FuncId → List Blk → List V → Option (V × List Blk)
 | 0,_,_,_=>none
 | d+1,f,bl,ags=>match spc f bl ags with
  | some r=>some r
  | none=>match ok f with
  | false=>none
  | true=>match E.P.funcs[f]? with
   | some fn=>match fn.body with
    | some c=>fVs ags fun ags=>match codeY E (pureX orc (runY E orc spc ok inl lf d)) (runY E orc spc ok inl lf d) inl fn.ntmps lf c ⟨frame0 ags,bl⟩with
     | some (e,σ)=>match e with
      | .normal | .ret=>match retV E σ fn.results.toList with
       | some v=>fV v fun v=>fBs σ.bl fun bl'=>some (trimX v bl' bl.length)
       | none=>none
      | _=>none
     | none=>none
    | none=>none
   | none=>none
theorem runY_ok {E : Env} (hE : EnvOK E) (hm : E.P.follows .mixedOrders = true) {orc : FuncId → List V → Option V} (ho : ∀ f ags X, orc f ags = some X → FnOK E.P E.r f ags X) {spc : FuncId → List Blk → List V → Option (V × List Blk)} (hsp : ∀ f bl ags X bl', spc f bl ags = some (X, bl') → FnS E.P E.r f bl ags X bl') {ok inl : FuncId → Bool} (hok : ∀ f fn c, ok f = true → E.P.funcs[f]? = some fn → fn.body = some c → codeB fn.ntmps c = true ∧ hasBody E.P f = true) {lf : Nat} :
  ∀(d:Nat) (f:FuncId) (bl:List Blk) (ags:List V) (X:V) (bl':List Blk),runY E orc spc ok inl lf d f bl ags=some (X,bl')->FnS E.P E.r f bl ags X bl'
 | 0,_,_,_,_,_,h=>by cases h
 | d+1,f,bl,ags,X,bl',h=>by
  simp only[runY]at h
  split at h
  ·rename_i r hr
   cases h
   exact hsp _ _ _ _ _ hr
  split at h
  ·cases h
  rename_i hokf
  split at h
  case h_2=>cases h
  rename_i fn hfn
  split at h
  case h_2=>cases h
  rename_i c hc
  rw[fVs_eq]at h
  split at h
  case h_2=>cases h
  rename_i e σ hrun
  obtain⟨hcb,hbd⟩:=hok f fn c hokf hfn hc
  have ih:=runY_ok hE hm ho hsp hok (inl:=inl) (lf:=lf) d
  refine⟨hbd,fun D0 w0 ρ w vs hs hargs=>?_⟩
  refine calls_of_wp hfn hc ?_
  let C:Ctx:=⟨D0,w0,E.r,fn.ntmps,ρ⟩
  have hlen:=hargs.length
  have hargs':=nrmVs_rel hargs
  have hrel:Rel C ⟨frame0 (ags.map nrmV),bl⟩ { tmps:=vs.toArray++Array.replicate (fn.ntmps-vs.toArray.size) undef,defers:=[] } w:=by
   refine⟨ρ,hs,⟨by simp[C];omega,LocsLe.refl _⟩,rfl,fun t=>?_⟩
   have h1:=hargs'.get t
   show VRel (Dof D0 ρ bl) w ρ ((ags.map nrmV).getD t (.c .any)) _
   rcases Nat.lt_or_ge t vs.length with hlt | hge
   ·have:(vs.toArray++Array.replicate (fn.ntmps-vs.toArray.size) undef).getD t undef=vs.getD t undef:=by
     rw[Array.getD_eq_getD_getElem?,Array.getElem?_append_left (by simpa using hlt)]
     simp[List.getD]
    rw[this];exact h1
   ·rw[show(ags.map nrmV).getD t (V.c .any) = .c .any by rw[List.getD,List.getElem?_eq_none (by simp;omega)];rfl]
    trivial
  refine wp_mono (codeY_ok hE (pureX_ok ho ih) ih hm rfl c hcb hrun hrel) ?_
  rintro e' a w' ⟨rfl,hr⟩
  have fin:(match retV E σ fn.results.toList with
    | some v=>fV v fun v=>fBs σ.bl fun bl'=>some (trimX v bl' bl.length)
    | none=>none)=some (X,bl')->a.defers=[]/\∃ v,(results fn a.tmps).run E.P w' = .ok v w'/\∃ u ρ',Ending.returned v = .returned u/\Sat D0 w0 E.r ρ' bl' w'/\LocsLe ρ ρ'/\VRel (Dof D0 ρ' bl') w' ρ' X u:=by
   intro hk
   split at hk
   ·rename_i v hv
    rw[fV_eq,fBs_eq]at hk
    obtain⟨ρ1,hs1,hN1,hdf1,hf1⟩:=hr
    obtain⟨x,hx,hxr⟩:=ret_run hE hs1 hf1 hv
    have hrel2:Rel ⟨D0,w0,E.r,0,ρ⟩ ⟨asg [(0,v)],σ.bl⟩ ⟨#[x],[]⟩ w':=by
     refine⟨ρ1,hs1,⟨Nat.zero_le _,hN1.2⟩,rfl,fun t=>?_⟩
     show VRel _ _ _ (if t=0 then v else .c .any) _
     split
     ·rename_i e;subst e;exact hxr
     ·trivial
    obtain⟨ρ2,hs2,hN2,_,hf2⟩:=Lax.nrm 1 _ _ _ _ hrel2
    have h3:VRel (Dof D0 ρ2 (σ.bl.map nrmB)) w' ρ2 (nrmV v) x:=hf2 0
    refine⟨hdf1,x,hx,x,?_⟩
    unfold trimX at hk
    split at hk
    ·rename_i hb
     cases hk
     simp only[Bool.and_eq_true]at hb
     obtain⟨t1,t2⟩:=hs2.take bl.length fun k B hk hB hst i j hi hj=>by
      have hmem:B∈(σ.bl.map nrmB).take bl.length:=List.mem_of_getElem? (by rw[List.getElem?_take_of_lt hk];exact hB)
      have:=List.all_eq_true.1 hb.2 B hmem
      simp only[hst,beq_self_eq_true,Bool.not_true,Bool.false_or]at this
      exact allIJ_ok this hi hj
     exact⟨_,rfl,t1,hN2.2.take (Nat.le_of_eq hs.len),(h3.take hb.1).step (Ext.refl _ _) (fun b _ hb=>t2 b hb) (LocsLe.refl _)⟩
    ·cases hk
     exact⟨ρ2,rfl,hs2,hN2.2,h3⟩
   ·cases hk
  cases e' with
  | normal=>exact fin h
  | ret=>exact fin h
  | exit i=>cases h
  | goto l=>cases h
  | panic ch=>cases h
  | outgrown=>cases h

def valC : Cell → Int
 | .int .i64 x=>x
 | _=>0
def isInt : Cell → Bool
 | .int .i64 _=>true
 | _=>false
theorem isInt_ok {c:Cell} (h:isInt c=true):c = .int .i64 (valC c):=by
 unfold isInt at h
 split at h
 ·rfl
 ·cases h
def isG (u : Nat) : Cell → Bool
 | .gs 0 v=>v == u
 | _=>false
theorem isG_ok {u:Nat} {c:Cell} (h:isG u c=true):c = .gs 0 u:=by
 unfold isG at h
 split at h
 ·rw[beq_iff_eq.1 h]
 ·cases h
def dvB (B0 B1:Blk) (p e:Int):Bool :=
 B0.t == 3&&B0.sz == 1&&B0.st == 0&&B1.t == 23&&B1.sz == 1&&B1.n == 1&&B1.u == 0&&B1.st == 0&&isG B0.u (B1.f 0 0)&&allIJ B0.n 1 (fun i _=>isInt (B0.f i 0))&&decide (1≤B0.n)&&decide (B0.n≤1000)&&decide (0≤e)&&decide (e≤1000)&&allIJ B0.n e.toNat (fun i q=>inRX .i64 (valC (B0.f i 0)*p^(q+1)))&&allIJ e.toNat 1 (fun q _=>inRX .i64 (p^(q+1)*p))
def dvX (f:FuncId) (bl:List Blk) (ags:List V):Option (V × List Blk):=match f == 74 with
 | false=>none
 | true=>match bl,ags with
  | [B0,B1],[.c (.int .i64 p),.c (.int .i64 e),.c (.p 1 0 1 0 0)]=>match dvB B0 B1 p e with
   | true=>some (.c .any,[⟨3,1,B0.n*(e.toNat+1),B0.u+1,0,fun i _ => .int .i64 (Dv.F B0.n (fun i=>valC (B0.f i 0)) p i)⟩,⟨23,1,1,0,0,fun _ _ => .gs 0 (B0.u+1)⟩])
   | false=>none
  | _,_=>none
theorem dvX_ok (f:FuncId) (bl:List Blk) (ags:List V) (X:V) (bl':List Blk) (h:dvX f bl ags=some (X,bl')):FnS Tryz.prog false f bl ags X bl':=by
 unfold dvX at h
 split at h
 ·cases h
 rename_i hf
 split at h
 ·rename_i B0 B1 p e
  split at h
  ·rename_i hd
   cases h
   rw[beq_iff_eq.1 hf]
   unfold dvB at hd
   simp only[Bool.and_eq_true,beq_iff_eq,decide_eq_true_eq]at hd
   obtain⟨⟨⟨⟨⟨⟨⟨⟨⟨⟨⟨⟨⟨⟨⟨a1,a2⟩,a3⟩,a4⟩,a5⟩,a6⟩,a7⟩,a8⟩,a9⟩,b1⟩,b2⟩,b3⟩,b4⟩,b5⟩,b6⟩,b7⟩:=hd
   obtain⟨t0,s0,n0,u0,st0,f0⟩:=B0
   obtain⟨t1,s1,n1,u1,st1,f1⟩:=B1
   simp only at a1 a2 a3 a4 a5 a6 a7 a8 a9 b1 b2 b3 b6
   subst a1 a2 a3 a4 a5 a6 a7 a8
   refine Dv.div_fnS ⟨b2,b3,b4,b5,fun i q hi hq=>?_,fun q hq=>?_⟩ (fun i j hi hj=>?_) fun i j hi hj=>?_
   ·rw[Dv.F_low hi]
    exact inRX_ok (allIJ_ok b6 hi (show q<e.toNat by omega))
   ·exact inRX_ok (allIJ_ok b7 (show q<e.toNat by omega) (Nat.zero_lt_one))
   ·obtain rfl:=Nat.lt_one_iff.1 hj
    show f0 i 0=_
    rw[Dv.F_low hi]
    exact isInt_ok (allIJ_ok b1 hi Nat.zero_lt_one)
   ·obtain rfl:=Nat.lt_one_iff.1 hi
    obtain rfl:=Nat.lt_one_iff.1 hj
    exact isG_ok a9
  ·cases h
 ·cases h
theorem runY_same {orc:FuncId->List V->Option V} (ho:∀ f l X,orc f l=some X->FnOK Tryz.prog false f l X) {inl:FuncId->Bool} {f:FuncId} {args:List V} {Y:V} (h:(pureX orc (runY ER orc dvX okF inl 1000 40) f args).map (fun X=>sameV X Y)=some true):FnOK Tryz.prog false f args Y:=by
 cases hx:pureX orc (runY ER orc dvX okF inl 1000 40) f args with
 | none=>rw[hx]at h;cases h
 | some X =>
  rw[hx]at h
  have h:sameV X Y=true:=by simpa using h
  have h1:=runY_ok (E:=ER) ER_ok (by rw[ER_P];exact mixedR) (by rw[ER_P,ER_r];exact ho) (by rw[ER_P,ER_r];exact dvX_ok) (by rw[ER_P];exact okF_ok) (inl:=inl) (lf:=1000) 40
  rw[ER_P,ER_r]at h1
  have hf:=pureX_ok ho h1 f args X hx
  refine⟨hf.1,fun D w vs h1 h2 h3=>(hf.2 D w vs h1 h2 h3).mono ?_⟩
  rintro e w' ⟨v,h4,h5,h6⟩
  exact⟨v,h4,sameV_ok X Y h D w' v h5,h6⟩
end Go.Proofs.YtibaocbpeaejkaaGreat
/- Polynomials over the integers, as functions: sums of products. -/
namespace Go.Proofs.YtibaocbpeaejkaaGreat
namespace Z
def su (f : Nat → Int) : Nat → Int
 | 0=>0
 | n+1=>su f n+f n
def cf (F G:Nat->Int) (k:Nat):Int:=su (fun i=>F i*G (k-i)) (k+1)
def Fin (n:Nat) (F:Nat->Int):Prop:=∀ k,n≤k->F k=0
structure Mon (n : Nat) (f : Nat → Int) : Prop where
 top:f n=1
 fin:Fin (n+1) f
end Z
end Go.Proofs.YtibaocbpeaejkaaGreat
/- The document's product of integers. -/
namespace Go.Proofs.YtibaocbpeaejkaaGreat
open Go.RowKit
namespace Rf
def mS (V a i:Nat) (b:Nat->Nat) (j:Nat):Nat:=V+a*nv b j*BB^i
end Rf
end Go.Proofs.YtibaocbpeaejkaaGreat
/- The document's integers in normal form: products; the same as themselves. -/
namespace Go.Proofs.YtibaocbpeaejkaaGreat
open Go.RowKit
namespace Rf
end Rf
end Go.Proofs.YtibaocbpeaejkaaGreat
/- The document's polynomials over the integers: sums, multiples, products, shifts; the same as themselves. -/
namespace Go.Proofs.YtibaocbpeaejkaaGreat
open Go.RowKit
namespace Rf
end Rf
end Go.Proofs.YtibaocbpeaejkaaGreat
/- The document's polynomials over the integers: shifts, division by a monic one. -/
namespace Go.Proofs.YtibaocbpeaejkaaGreat
open Go.RowKit
namespace Z
def sh (k:Nat) (a:Nat->Int) (i:Nat):Int:=if i<k then 0 else a (i-k)
def mo (c:Int) (k i:Nat):Int:=if i=k then c else 0
def lo (k:Nat) (q:Nat->Int) (i:Nat):Int:=if i<k then q i else 0
def hi (k:Nat) (q:Nat->Int) (i:Nat):Int:=if k≤i then q i else 0
end Z
namespace Rf
end Rf
end Go.Proofs.YtibaocbpeaejkaaGreat
/- The document's cyclotomic polynomials: powers less one, products, the recursion; the law over what its calls hand back. -/
namespace Go.Proofs.YtibaocbpeaejkaaGreat
open Go.RowKit
namespace Z
def one (i:Nat):Int:=if i=0 then 1 else 0
def xn1 (n i:Nat):Int:=mo 1 n i-one i
end Z
namespace Rf
abbrev ints (n:Nat) (d:Nat->Nat):Cell := .row 1 n fun i _ => .int .i64 (d i)
end Rf
end Go.Proofs.YtibaocbpeaejkaaGreat
/- Products and quotients of literal lists of the document's integer polynomials. -/
namespace Go.Proofs.YtibaocbpeaejkaaGreat
open Go.RowKit
namespace Z
abbrev gl (l:List Int) (i:Nat):Int:=l.getD i 0
end Z
namespace Rf
end Rf
end Go.Proofs.YtibaocbpeaejkaaGreat
/- The law of the cyclotomic polynomials at one order, from runs and checks of literal lists. -/
namespace Go.Proofs.YtibaocbpeaejkaaGreat
open Go.RowKit
namespace Rf
abbrev lg (Q:List (List Int)) (i:Nat):List Int:=Q.getD i []
end Rf
end Go.Proofs.YtibaocbpeaejkaaGreat
/- cyclotomic.times and over: products and quotients by x^d - 1. -/
namespace Go.Proofs.YtibaocbpeaejkaaGreat
open Go.RowKit
namespace Dv
def tp (d:Nat) (a:Nat->Int) (i j:Nat):Int:=(if d≤j/\j-d<i then a (j-d)else 0)-(if j<i then a j else 0)
abbrev iv (n:Nat) (a:Nat->Int):Cell := .row 1 n fun i _ => .int .i64 (a i)
theorem updI {f:Nat->Nat->Cell} {c:Cell} {k i j:Nat} (hj:j<1):updF f k 0 [c] i j=if i=k then c else f i j:=by
 obtain rfl:=Nat.lt_one_iff.1 hj
 unfold updF
 by_cases e:i=k
 ·rw[if_pos ⟨e,Nat.zero_le _,by show 0<0+1;omega⟩,if_pos e];rfl
 ·rw[if_neg (fun h=>e h.1),if_neg e]
theorem tp_step {d:Nat} {a:Nat->Int} {i j:Nat} (h1:1≤d) {x y:Int} (hx:x=tp d a i i-a i) (hy:y=tp d a i (i+d)+a i) {f:Nat->Nat->Cell} (hf:∀ i' j',f i' j' = .int .i64 (tp d a i i')) {j':Nat} (hj:j'<1):updF (updF f i 0 [.int .i64 x]) (i+d) 0 [.int .i64 y] j j' = .int .i64 (tp d a (i+1) j):=by
 rw[updI hj]
 by_cases e:j=i+d
 ·rw[if_pos e,hy,e]
  unfold tp
  simp only[Nat.add_sub_cancel]
  rw[if_neg (by omega),if_neg (by omega),if_pos (by omega),if_neg (by omega)]
  congr 1
  omega
 ·rw[if_neg e,updI hj]
  by_cases e2:j=i
  ·rw[if_pos e2,hx,e2]
   unfold tp
   congr 1
   rw[if_neg (show ¬ i<i by omega),if_pos (show i<i+1 by omega)]
   by_cases c:d≤i/\i-d<i
   ·rw[if_pos c,if_pos (by omega)];omega
   ·rw[if_neg c,if_neg (by omega)];omega
  ·rw[if_neg e2,hf]
   unfold tp
   congr 1
   have A:(if d≤j/\j-d<i then a (j-d)else 0)=if d≤j/\j-d<i+1 then a (j-d)else 0:=by
    by_cases c:d≤j/\j-d<i
    ·rw[if_pos c,if_pos (by omega)]
    ·rw[if_neg c,if_neg (by omega)]
   have B:(if j<i then a j else 0)=if j<i+1 then a j else 0:=by
    by_cases c:j<i
    ·rw[if_pos c,if_pos (by omega)]
    ·rw[if_neg c,if_neg (by omega)]
   rw[A,B]
theorem tp_range {d:Nat} {a:Nat->Int} (ha:∀ i,-1073741824≤a i/\a i≤1073741824) (i j:Nat) : -2147483648≤tp d a i j/\tp d a i j≤2147483648:=by
 unfold tp
 have h1:=ha (j-d)
 have h2:=ha j
 split <;> split <;> omega
theorem zero1 {i j:Nat} (hj:j<1):zeroF [.int .i64 0] i j = .int .i64 0:=by
 obtain rfl:=Nat.lt_one_iff.1 hj
 rfl
def up (f:Nat->Int) (k:Nat) (x:Int) (j:Nat):Int:=if j=k then x else f j
theorem up_ok {f:Nat->Nat->Cell} {g g':Nat->Int} {k:Nat} {x:Int} (hf:∀ i j,f i j = .int .i64 (g i)) (hg:∀ i,up g k x i=g' i) {i j:Nat} (hj:j<1):updF f k 0 [.int .i64 x] i j = .int .i64 (g' i):=by
 rw[updI hj,← hg]
 unfold up
 split
 ·rfl
 ·exact hf i j
set_option maxHeartbeats 4000000 in
theorem times_ok {n d:Nat} {a:Nat->Int} (hn:n≤4096) (h1:1≤d) (hd:d≤4096) (ha:∀ i,-1073741824≤a i/\a i≤1073741824):FnOK Tryz.prog false 55 [.c (iv n a),.c (.int .i64 d)] (.c (iv (n+d) (tp d a n))):=by
 have hT:=tp_range (d:=d) ha
 have t0:∀ j,Cell.int .i64 0 = .int .i64 (tp d a 0 j):=fun j=>by unfold tp;rw[if_neg (by omega),if_neg (by omega)];rfl
 have st:∀ i j,up (up (tp d a i) i (tp d a i i-a i)) (i+d) (up (tp d a i) i (tp d a i i-a i) (i+d)+a i) j=tp d a (i+1) j:=fun i j=>by
  have h:=tp_step (d:=d) (a:=a) (i:=i) (j:=j) h1 rfl rfl (f:=fun i' _ => .int .i64 (tp d a i i')) (fun _ _=>rfl) Nat.zero_lt_one
  rw[updI Nat.zero_lt_one,updI Nat.zero_lt_one]at h
  unfold up
  have e:(if i+d=i then tp d a i i-a i else tp d a i (i+d))=tp d a i (i+d):=if_neg (by omega)
  rw[e]
  split at h
  ·rename_i c;rw[if_pos c];exact(Cell.int.inj h).2
  ·rename_i c
   rw[if_neg c]
   split at h
   ·rename_i c;rw[if_pos c];exact(Cell.int.inj h).2
   ·rename_i c;rw[if_neg c];exact(Cell.int.inj h).2
 have hU:∀ i,up (tp d a i) i (tp d a i i-a i) (i+d)=tp d a i (i+d):=fun i=>if_neg (by omega)
 have hend:∀ i:Nat,¬(i:Int)<n->i≤n->i=n:=fun i h1 h2=>by omega
 obtain⟨T,hTe⟩:∃ T,T=tp d a:=⟨_,rfl⟩
 rw[← hTe]at hT t0 st hU ⊢
 obtain⟨U,hUe⟩:∃ U:Nat->Nat->Int,U=fun i=>up (T i) i (T i i-a i):=⟨_,rfl⟩
 have uo:∀ i (f:Nat->Nat->Cell),(∀ x y,f x y = .int .i64 (T i x))->∀ x y,y<1->updF f i 0 [.int .i64 (T i i-a i)] x y = .int .i64 (U i x):=fun i f hf x y hy=>up_ok hf (fun j=>by rw[hUe]) hy
 have uo2:∀ i (f:Nat->Nat->Cell),(∀ x y,f x y = .int .i64 (U i x))->∀ x y,y<1->updF f (i+d) 0 [.int .i64 (U i (i+d)+a i)] x y = .int .i64 (T (i+1) x):=fun i f hf x y hy=>up_ok hf (fun j=>by rw[hUe];exact st i j) hy
 have hU:∀ i,U i (i+d)=T i (i+d):=fun i=>by rw[hUe];exact hU i
 have hX:∀ i,i=n->Sub (.c (iv (n+d) (T i))) (.c (iv (n+d) (T n))):=fun i e=>by rw[e];exact Sub.refl _
 clear hTe hUe st
 refine fn_okS (E:=E0) E0_ok Tryz.func55 rfl (by kernel_rfl) ?_
 refine swp_seq0 E0_ok mixed (by kernel_rfl) ?_
 conv=>whnf
 refine swp_seq0 E0_ok mixed (by kernel_rfl) ?_
 conv=>whnf
 refine⟨⟨by omega,by omega⟩,?_⟩
 conv=>whnf
 refine⟨by omega,by omega,by omega,by show(8:Int)*((n:Int)+d)≤281474976710656;omega,?_⟩
 conv=>whnf
 refine swp_seqS ?_
 refine swp_seq0 E0_ok mixed (by kernel_rfl) ?_
 conv=>whnf
 refine swp_block ?_
 refine swp_loop (fun i:Nat=>gst [(0,.c (iv n a)),(1,.c (.int .i64 d)),(5,.c (.gs 0 0)),(13,.c (iv n a)),(14,.c (.int .i64 n)),(15,.c (.int .i64 i))] [gI (n+d) (T i)]) (fun i=>n-i) (fun i=>i≤n) 0 (Weak.gen [some 0] rfl ⟨⟨_,rfl,rfl,rfl,rfl,rfl,fun x y hx hy=>regE ((zero1 (i:=x) hy).trans (t0 x)) rfl⟩,trivial⟩ ⟨.inl ⟨_,_,rfl,rfl,fun _ _ _ _=>rfl⟩,⟨_,rfl,rfl⟩,⟨_,rfl,rfl,rfl⟩,.inl ⟨_,_,rfl,rfl,fun _ _ _ _=>rfl⟩,⟨_,rfl,rfl⟩,⟨_,rfl,rfl⟩,trivial⟩) (Nat.zero_le _) fun i hi=>?_
 have uo:=uo i
 have uo2:=uo2 i
 have hU:=hU i
 have hT1:=hT i i
 have hT2:=hT i (i+d)
 have ha:=ha i
 have hend:=hend i
 have hX:=hX i
 refine swp_seq0 E0_ok mixed (by kernel_rfl) ?_
 conv=>whnf
 refine swp_seq0 E0_ok mixed (by kernel_rfl) ?_
 conv=>whnf
 refine bcase (fun(h:decide ((i:Int)<n)=true)=>?_) fun(h:decide ((i:Int)<n)=false)=>?_
 ·have h:=of_decide_eq_true h
  have m1:n-(i+1)<n-i:=by omega
  have m2:i+1≤n:=by omega
  have hr : -9223372036854775808≤U i (i+d)+a i/\U i (i+d)+a i<9223372036854775808:=by omega
  conv=>whnf
  refine swp_seqS (swp_block ?_)
  refine swp_seq0 E0_ok mixed (by kernel_rfl) ?_
  conv=>whnf
  refine⟨by omega,by omega,?_⟩
  conv=>whnf
  refine swp_seq E0_ok mixed (by kernel_rfl) ?_
  conv=>whnf
  refine⟨by omega,by show(i:Int)<((n+d:Nat):Int);omega,?_⟩
  conv=>whnf
  refine⟨⟨by show(-9223372036854775808:Int)≤T i i-a i;omega,by show T i i-a i<(9223372036854775808:Int);omega⟩,?_⟩
  conv=>whnf
  refine⟨by omega,by show(i:Int)<((n+d:Nat):Int);omega,?_⟩
  conv=>whnf
  refine⟨gst [(0,.c (iv n a)),(1,.c (.int .i64 d)),(5,.c (.gs 0 0)),(6,.c (.int .i64 i)),(7,.c (.int .i64 (a i))),(13,.c (iv n a)),(14,.c (.int .i64 n)),(15,.c (.int .i64 i))] [gI (n+d) (U i)],Weak.gen [some 0] rfl ⟨⟨_,rfl,rfl,rfl,rfl,rfl,fun x y hx hy=>regE (uo _ (fun _ _=>rfl) x y hy) rfl⟩,trivial⟩ ⟨.inl ⟨_,_,rfl,rfl,fun _ _ _ _=>rfl⟩,⟨_,rfl,rfl⟩,⟨_,rfl,rfl,rfl⟩,⟨_,rfl,rfl⟩,⟨_,rfl,rfl⟩,.inl ⟨_,_,rfl,rfl,fun _ _ _ _=>rfl⟩,⟨_,rfl,rfl⟩,⟨_,rfl,rfl⟩,trivial⟩,?_⟩
  refine swp_of E0_ok mixed (by kernel_rfl) ?_
  conv=>whnf
  refine⟨⟨by omega,by omega⟩,?_⟩
  conv=>whnf
  refine⟨by omega,by show(i:Int)+d<((n+d:Nat):Int);omega,?_⟩
  conv=>whnf
  refine⟨hr,?_⟩
  conv=>whnf
  refine⟨by omega,by show(i:Int)+d<((n+d:Nat):Int);omega,?_⟩
  conv=>whnf
  refine swp_of E0_ok mixed (by kernel_rfl) ?_
  conv=>whnf
  refine⟨⟨by omega,by omega⟩,?_⟩
  conv=>whnf
  exact⟨i+1,m1,Weak.gen [some 0] rfl ⟨⟨_,rfl,rfl,rfl,rfl,rfl,fun x y hx hy=>regE (uo2 _ (fun _ _=>rfl) x y hy) rfl⟩,trivial⟩ ⟨.inl ⟨_,_,rfl,rfl,fun _ _ _ _=>rfl⟩,⟨_,rfl,rfl⟩,⟨_,rfl,rfl,rfl⟩,.inl ⟨_,_,rfl,rfl,fun _ _ _ _=>rfl⟩,⟨_,rfl,rfl⟩,⟨_,rfl,rfl⟩,trivial⟩,m2⟩
 ·have h:=of_decide_eq_false h
  have hX:=hX (hend h hi)
  conv=>whnf
  refine swp_seq0 E0_ok mixed (by kernel_rfl) ?_
  conv=>whnf
  refine swp_of E0_ok mixed (by kernel_rfl) ?_
  conv=>whnf
  refine⟨fun _ _ _ _=>rfl,?_⟩
  conv=>whnf
  exact⟨rfl,hX⟩
end Dv
end Go.Proofs.YtibaocbpeaejkaaGreat
/- slices.Clone in its caller's blocks; a region with a call of that kind; cyclotomic.over. -/
namespace Go.Proofs.YtibaocbpeaejkaaGreat
open Go.RowKit
theorem swp_go {E : Env} (hE : EnvOK E) {N id : Nat} {ops : Array Oper} {pre post : List Oper} {o : Oper} (hl : ops.toList = pre ++ o :: post) (hg : o.guard = none) (hdst : (ops.toList.all (dstB N)) = true) {σ : St} {R : Exit → St → Prop}
  (h:aops E ops pre σ fun τ=>∃ τ',OpGo E o τ τ'/\aops E ops post τ' (R .normal)):Swp E N (.region id ops false) σ R:=by
 refine⟨fun C a w h1 h2 h3 hr=>?_⟩
 have hdo:∀ o'∈ops.toList,dstOK C.N o'.dst:=by
  intro o' ho d hd'
  have:=List.all_eq_true.1 hdst o' ho
  unfold dstB at this
  rw[hd']at this
  rw[h3]
  simpa using this
 refine wp_region_list ?_
 rw[hl]at hdo ⊢
 refine aops_app hE h1 (fun τ a w hk hrel=>?_) pre σ a w (fun o' ho=>hdo o' (by simp[ho])) h hr
 obtain⟨τ',hgo,hrest⟩:=hk
 unfold wpList
 rw[if_pos (by simp[Region.wanted,hg])]
 refine .inl (hgo h1 (hdo o (by simp)) hrel fun a' w' hrel'=>?_)
 exact aops_sound hE h1 (fun σ a w hk hrel=>⟨σ,hrel,hk⟩) post _ a' w' (fun o' ho=>hdo o' (by simp[ho])) hrest hrel'
namespace Dv
theorem app00 {f:Nat->Nat->Cell} {a:Nat->Int} {x y:Nat}:appF 0 f (fun i _ => .int .i64 (a i)) x y = .int .i64 (a x):=by
 unfold appF
 rw[if_neg (by omega),Nat.sub_zero]
set_option maxHeartbeats 4000000 in
theorem clone_s {n:Nat} {a:Nat->Int} (h0:0<n) (hn:n≤1048576):FnS Tryz.prog false 98 [] [.c (iv n a)] (.c (.gs 0 0)) [gb (gI n a)]:=by
 refine fns_okS (E:=E0) E0_ok Tryz.func98 rfl (by kernel_rfl) rfl ?_
 refine swp_of E0_ok mixed (by kernel_rfl) ?_
 conv=>whnf
 refine⟨h0,?_⟩
 conv=>whnf
 refine⟨by show 0+n≤16777216;omega,fun x y hx hy=>?_,?_⟩
 ·exact⟨rfl,fun h=>by cases h⟩
 conv=>whnf
 show Weak 0 ⟨_,_⟩ (gst [(0,V.c (.gs 0 0))] [gI n a])
 exact Weak.gen [some 0] rfl ⟨⟨_,rfl,rfl,rfl,Nat.zero_add n,rfl,fun x y hx hy=>regE (app00 (f:=fun _ _=>Cell.any) (y:=y)) rfl⟩,trivial⟩ ⟨⟨_,rfl,rfl,rfl⟩,trivial⟩
def e6 : Nat → Int
 | 0 => -1
 | i+1=>i
theorem e6_eq (k:Nat):(k:Int)-1=e6 k:=by
 cases k with
 | zero=>rfl
 | succ i=>show((i+1:Nat):Int)-1=(i:Int);omega
def oF (d t:Nat) (q:Nat->Int) (k j:Nat):Int:=if k≤j/\j<t then tp d q t j+q j else tp d q t j
def oQ (q:Nat->Int) (k j:Nat):Int:=if k≤j then q j else 0
theorem oF_at {d t i:Nat} {q:Nat->Int} (h1:1≤d) (hi:i<t):oF d t q (i+1) (i+d)=q i:=by
 unfold oF tp
 rw[Nat.add_sub_cancel]
 by_cases c:i+d<t
 ·rw[if_pos ⟨by omega,c⟩,if_pos ⟨by omega,hi⟩,if_pos c];omega
 ·rw[if_neg (by omega),if_pos ⟨by omega,hi⟩,if_neg c];omega
theorem oF_next {d t i:Nat} {q:Nat->Int} (hi:i<t) (j:Nat):up (oF d t q (i+1)) i (oF d t q (i+1) i+oQ q i i) j=oF d t q i j:=by
 unfold up oF oQ
 by_cases e:j=i
 ·rw[if_pos e,e,if_neg (by omega),if_pos (Nat.le_refl i),if_pos ⟨Nat.le_refl i,hi⟩]
 ·rw[if_neg e]
  by_cases c:i≤j/\j<t
  ·rw[if_pos c,if_pos (by omega)]
  ·rw[if_neg c,if_neg (by omega)]
theorem oQ_next {i:Nat} {q:Nat->Int} (j:Nat):up (oQ q (i+1)) i (q i) j=oQ q i j:=by
 unfold up oQ
 by_cases e:j=i
 ·rw[if_pos e,e,if_pos (Nat.le_refl i)]
 ·rw[if_neg e]
  by_cases c:i≤j
  ·rw[if_pos c,if_pos (by omega)]
  ·rw[if_neg c,if_neg (by omega)]
set_option maxHeartbeats 4000000 in
set_option maxRecDepth 100000 in
theorem over_ok {t d:Nat} {q:Nat->Int} (ht:t≤4096) (h1:1≤d) (hd:d≤4096) (ha:∀ i,-1073741824≤q i/\q i≤1073741824):FnOK Tryz.prog false 56 [.c (iv (t+d) (tp d q t)),.c (.int .i64 d)] (.c (iv t q)):=by
 have hC:=clone_s (n:=t+d) (a:=tp d q t) (by omega) (by omega)
 have s0:∀ x,tp d q t x=oF d t q t x:=fun x=>by unfold oF;rw[if_neg (by omega)]
 have s1:∀ x,x<t->Cell.int .i64 0 = .int .i64 (oQ q t x):=fun x hx=>by unfold oQ;rw[if_neg (by omega)]
 have s2:∀ i,i<t->oF d t q (i+1) (i+d)=q i:=fun i hi=>oF_at h1 hi
 have s3:∀ i,i<t->∀ j,up (oF d t q (i+1)) i (oF d t q (i+1) i+oQ q i i) j=oF d t q i j:=fun i hi j=>oF_next hi j
 have s4:∀ i j,up (oQ q (i+1)) i (q i) j=oQ q i j:=fun i j=>oQ_next j
 have s5:∀ i,i<t -> -9223372036854775808≤oF d t q (i+1) i+oQ q i i/\oF d t q (i+1) i+oQ q i i<9223372036854775808:=fun i hi=>by
  have h1:=tp_range (d:=d) ha t i
  have h2:=ha i
  unfold oF oQ
  rw[if_neg (by omega),if_pos (Nat.le_refl i)]
  omega
 have s6:∀ x,Cell.int .i64 (oQ q 0 x) = .int .i64 (q x):=fun x=>by unfold oQ;rw[if_pos (Nat.zero_le x)]
 have hX:Sub (.c (iv t (oQ q 0))) (.c (iv t q)):=by
  have e:oQ q 0=q:=funext fun x=>by unfold oQ;rw[if_pos (Nat.zero_le x)]
  rw[e];exact Sub.refl _
 have nt:(((t+d:Nat):Int)-(d:Int)).toNat=t:=by omega
 obtain⟨T,hT⟩:∃ T,T=tp d q t:=⟨_,rfl⟩
 rw[← hT]at hC s0 ⊢
 obtain⟨Ff,hF⟩:∃ Ff,Ff=oF d t q:=⟨_,rfl⟩
 rw[← hF]at s0 s2 s3 s5
 obtain⟨Q,hQ⟩:∃ Q,Q=oQ q:=⟨_,rfl⟩
 rw[← hQ]at s1 s3 s4 s5 s6 hX
 clear hT hF hQ
 refine fn_okS (E:=E0) E0_ok Tryz.func56 rfl (by kernel_rfl) ?_
 refine swp_seq0 E0_ok mixed (by kernel_rfl) ?_
 conv=>whnf
 refine swp_seqS (swp_go E0_ok (pre:=[_]) (post:=[_]) rfl rfl (by kernel_rfl) ?_)
 conv=>whnf
 refine⟨_,OpGo.call (f:=98) (cs:=[]) rfl rfl hC,?_⟩
 conv=>whnf
 refine Swp.weak (σ2:=gst [(0,.c (.gs 0 0)),(1,.c (.int .i64 d))] [gI (t+d) T]) (Weak.gen [some 0] rfl ⟨⟨_,rfl,rfl,rfl,rfl,rfl,fun x y hx hy=>regE rfl rfl⟩,trivial⟩ ⟨⟨_,rfl,rfl,rfl⟩,⟨_,rfl,rfl⟩,trivial⟩) ?_
 refine swp_seq E0_ok mixed (by kernel_rfl) ?_
 conv=>whnf
 refine⟨⟨by show(-9223372036854775808:Int)≤((t+d:Nat):Int)-d;omega,by show((t+d:Nat):Int)-d<(9223372036854775808:Int);omega⟩,?_⟩
 conv=>whnf
 refine⟨by show(0:Int)≤((t+d:Nat):Int)-d;omega,by show((t+d:Nat):Int)-d≤((t+d:Nat):Int)-d;omega,by show((t+d:Nat):Int)-d≤281474976710656;omega,by show(8:Int)*(((t+d:Nat):Int)-d)≤281474976710656;omega,?_⟩
 conv=>whnf
 refine⟨gst [(0,.c (.gs 0 0)),(1,.c (.int .i64 d)),(5,.c (.gs 1 0))] [gI (t+d) T,gI t (Q t)],Weak.gen [some 0,some 1] rfl ⟨⟨_,rfl,rfl,rfl,rfl,rfl,fun x y hx hy=>regE rfl rfl⟩,⟨_,rfl,rfl,rfl,nt,rfl,fun x y hx hy=>regE ((zero1 (i:=x) hy).trans (s1 x hx)) rfl⟩,trivial⟩ ⟨⟨_,rfl,rfl,rfl⟩,⟨_,rfl,rfl⟩,⟨_,rfl,rfl,rfl⟩,trivial⟩,?_⟩
 refine swp_seqS ?_
 refine swp_seq0 E0_ok mixed (by kernel_rfl) ?_
 conv=>whnf
 refine⟨⟨by show(-9223372036854775808:Int)≤(t:Int)-1;omega,by show(t:Int)-1<(9223372036854775808:Int);omega⟩,?_⟩
 conv=>whnf
 refine swp_block ?_
 refine swp_loop (fun k:Nat=>gst [(0,.c (.gs 0 0)),(1,.c (.int .i64 d)),(5,.c (.gs 1 0)),(6,.c (.int .i64 (e6 k)))] [gI (t+d) (Ff k),gI t (Q k)]) (fun k=>k) (fun k=>k≤t) t (Weak.gen [some 0,some 1] rfl ⟨⟨_,rfl,rfl,rfl,rfl,rfl,fun x y hx hy=>regE (congrArg (Cell.int .i64) (s0 x)) rfl⟩,⟨_,rfl,rfl,rfl,rfl,rfl,fun x y hx hy=>regE rfl rfl⟩,trivial⟩ ⟨⟨_,rfl,rfl,rfl⟩,⟨_,rfl,rfl⟩,⟨_,rfl,rfl,rfl⟩,⟨_,rfl,e6_eq t⟩,trivial⟩) (Nat.le_refl t) fun k hk=>?_
 match k,hk with
 | 0,_ =>
  refine swp_seqS ?_
  refine swp_seq0 E0_ok mixed (by kernel_rfl) ?_
  conv=>whnf
  refine swp_of E0_ok mixed (by kernel_rfl) ?_
  conv=>whnf
  refine swp_of E0_ok mixed (by kernel_rfl) ?_
  conv=>whnf
  refine⟨fun _ _ _ _=>rfl,?_⟩
  conv=>whnf
  exact⟨rfl,hX⟩
 | i+1,hk =>
  have hi:i<t:=hk
  have s4:∀ j,up (Q (i+1)) i (Ff (i+1) (i+d)) j=Q i j:=fun j=>by rw[s2 i hi];exact s4 i j
  have s3:=s3 i hi
  have s5:=s5 i hi
  have m1:i<i+1:=by omega
  have m2:i≤t:=by omega
  refine swp_seqS ?_
  refine swp_seq0 E0_ok mixed (by kernel_rfl) ?_
  conv=>whnf
  refine swp_of E0_ok mixed (by kernel_rfl) ?_
  conv=>whnf
  refine swp_seqS (swp_block ?_)
  refine swp_seq E0_ok mixed (by kernel_rfl) ?_
  conv=>whnf
  refine⟨⟨by show(-9223372036854775808:Int)≤(i:Int)+d;omega,by show(i:Int)+d<(9223372036854775808:Int);omega⟩,?_⟩
  conv=>whnf
  refine⟨by show(0:Int)≤(i:Int)+d;omega,by show(i:Int)+d<((t+d:Nat):Int);omega,?_⟩
  conv=>whnf
  refine⟨by show(0:Int)≤(i:Int);omega,by show(i:Int)<(t:Int);omega,?_⟩
  conv=>whnf
  refine⟨gst [(0,.c (.gs 0 0)),(1,.c (.int .i64 d)),(5,.c (.gs 1 0)),(6,.c (.int .i64 i))] [gI (t+d) (Ff (i+1)),gI t (Q i)],Weak.gen [some 0,some 1] rfl ⟨⟨_,rfl,rfl,rfl,rfl,rfl,fun x y hx hy=>regE rfl rfl⟩,⟨_,rfl,rfl,rfl,rfl,rfl,fun x y hx hy=>regE (up_ok (fun _ _=>rfl) s4 hy) rfl⟩,trivial⟩ ⟨⟨_,rfl,rfl,rfl⟩,⟨_,rfl,rfl⟩,⟨_,rfl,rfl,rfl⟩,⟨_,rfl,rfl⟩,trivial⟩,?_⟩
  refine swp_of E0_ok mixed (by kernel_rfl) ?_
  conv=>whnf
  refine⟨by omega,by show(i:Int)<((t+d:Nat):Int);omega,?_⟩
  conv=>whnf
  refine⟨by omega,by show(i:Int)<(t:Int);omega,?_⟩
  conv=>whnf
  refine⟨s5,?_⟩
  conv=>whnf
  refine⟨by omega,by show(i:Int)<((t+d:Nat):Int);omega,?_⟩
  conv=>whnf
  refine swp_of E0_ok mixed (by kernel_rfl) ?_
  conv=>whnf
  refine⟨⟨by omega,by omega⟩,?_⟩
  conv=>whnf
  exact⟨i,m1,Weak.gen [some 0,some 1] rfl ⟨⟨_,rfl,rfl,rfl,rfl,rfl,fun x y hx hy=>regE (up_ok (fun _ _=>rfl) s3 hy) rfl⟩,⟨_,rfl,rfl,rfl,rfl,rfl,fun x y hx hy=>regE rfl rfl⟩,trivial⟩ ⟨⟨_,rfl,rfl,rfl⟩,⟨_,rfl,rfl⟩,⟨_,rfl,rfl,rfl⟩,⟨_,rfl,e6_eq i⟩,trivial⟩,m2⟩
end Dv
end Go.Proofs.YtibaocbpeaejkaaGreat
/- times and over as a table for the evaluator. -/
namespace Go.Proofs.YtibaocbpeaejkaaGreat
open Go.RowKit
theorem FnOK.same {P:Program} {r:Bool} {f:FuncId} {x y d X:V} (h:FnOK P r f [y,d] X) (hs:sameV x y=true):FnOK P r f [x,d] X:=by
 refine⟨h.1,fun D w vs h1 h2 hargs=>h.2 D w vs h1 h2 ?_⟩
 match vs,hargs with
 | [u,v],hargs=>exact⟨sameV_ok x y hs D w u hargs.1,hargs.2⟩
 | [],hargs=>exact hargs.elim
 | [_],hargs=>exact hargs.2.elim
 | _ :: _ :: _ :: _,hargs=>exact hargs.2.2.elim
def smallI (x:Int):Bool:=decide (-1073741824≤x)&&decide (x≤1073741824)
def smallL (l:List Int):Bool:=l.all smallI
theorem smallL_ok {l:List Int} (h:smallL l=true) (i:Nat) : -1073741824≤l.getD i 0/\l.getD i 0≤1073741824:=by
 rw[List.getD_eq_getElem?_getD]
 cases hx:l[i]? with
 | none=>exact⟨by decide,by decide⟩
 | some x =>
  have:=List.all_eq_true.1 h x (List.mem_of_getElem? hx)
  unfold smallI at this
  simp only[Bool.and_eq_true,decide_eq_true_eq]at this
  exact this
def ovL (d : Nat) (f : Nat → Int) : Nat → List Int → List Int
 | 0,acc=>acc
 | i+1,acc=>ovL d f i ((f (i+d)+acc.getD (d-1) 0) :: acc)
def tmX (n d:Nat) (g:Nat->Nat->Cell):Option V :=
 let l:=(List.range n).map fun i=>valC (g i 0)
 match decide (n≤4096)&&decide (1≤d)&&decide (d≤4096)&&smallL l&&sameV (.c (.row 1 n g)) (.c (Dv.iv n fun i=>l.getD i 0))with
 | true=>some (.c (Dv.iv (n+d) (Dv.tp d (fun i=>l.getD i 0) n)))
 | false=>none
def ovX (n d:Nat) (g:Nat->Nat->Cell):Option V :=
 let l:=ovL d (fun i=>valC (g i 0)) (n-d) []
 match decide (n-d≤4096)&&decide (1≤d)&&decide (d≤4096)&&smallL l&&sameV (.c (.row 1 n g)) (.c (Dv.iv (n-d+d) (Dv.tp d (fun i=>l.getD i 0) (n-d))))with
 | true=>some (.c (Dv.iv (n-d) fun i=>l.getD i 0))
 | false=>none
theorem tmX_ok {n d:Nat} {g:Nat->Nat->Cell} {X:V} (h:tmX n d g=some X):FnOK Tryz.prog false 55 [.c (.row 1 n g),.c (.int .i64 d)] X:=by
 unfold tmX at h
 simp only at h
 split at h
 ·rename_i hb
  cases h
  simp only[Bool.and_eq_true,decide_eq_true_eq]at hb
  obtain⟨⟨⟨⟨h1,h2⟩,h3⟩,h4⟩,h5⟩:=hb
  exact(Dv.times_ok h1 h2 h3 (smallL_ok h4)).same h5
 ·cases h
theorem ovX_ok {n d:Nat} {g:Nat->Nat->Cell} {X:V} (h:ovX n d g=some X):FnOK Tryz.prog false 56 [.c (.row 1 n g),.c (.int .i64 d)] X:=by
 unfold ovX at h
 simp only at h
 split at h
 ·rename_i hb
  cases h
  simp only[Bool.and_eq_true,decide_eq_true_eq]at hb
  obtain⟨⟨⟨⟨h1,h2⟩,h3⟩,h4⟩,h5⟩:=hb
  exact(Dv.over_ok h1 h2 h3 (smallL_ok h4)).same h5
 ·cases h
def orcP (f:FuncId) (l:List V):Option V:=match orcC f l with
 | some X=>some X
 | none=>match l with
  | [.c (.row 1 n g),.c (.int .i64 (.ofNat d))]=>match f == 55 with
   | true=>tmX n d g
   | false=>match f == 56 with
    | true=>ovX n d g
    | false=>none
  | _=>none
theorem orcP_ok (f:FuncId) (l:List V) (X:V) (h:orcP f l=some X):FnOK Tryz.prog false f l X:=by
 unfold orcP at h
 split at h
 ·rename_i Y hY
  cases h
  exact orcC_ok f l _ hY
 ·split at h
  ·rename_i n g d
   split at h
   ·rename_i hf
    rw[beq_iff_eq.1 hf]
    exact tmX_ok h
   ·split at h
    ·rename_i hf
     rw[beq_iff_eq.1 hf]
     exact ovX_ok h
    ·cases h
  ·cases h
def dvIn:List FuncId:=[73,74,75,117,149,78,118,79,168,196,191]
def dvI (f:FuncId):Bool:=dvIn.contains f
abbrev lf (l:List Int) (i:Nat):Int:=l.getD i 0
end Go.Proofs.YtibaocbpeaejkaaGreat
/- The cyclotomic polynomials modulo a prime that does not divide n: the degree of each irreducible factor is the order of p. Plain: no program. -/
namespace Go.Proofs.YtibaocbpeaejkaaGreat
open Crg Pol
namespace Spl
section
variable {p:Int} [hp:Prm p]
noncomputable def po (p : Int) [Prm p] : List Int → Pol (Zp p)
 | []=>0
 | a :: l=>C (Zp.red a)+X*po p l
theorem X_mul_f (a:Pol (Zp p)) (i:Nat):(X*a).f i=if 1≤i then a.f (i-1)else 0:=by
 show(mn 1 1*a).f i=_
 rw[mn_mul]
 split
 ·rw[one_mul]
 ·rfl
theorem po_f : ∀ (l : List Int) (i : Nat), (po p l).f i = Zp.red (l.getD i 0)
 | [],i=>rfl
 | a :: l,0=>by
  show(C (Zp.red a)+X*po p l).f 0=Zp.red a
  rw[f_add,X_mul_f,if_neg (by omega),Crg.add_zero]
  rfl
 | a :: l,i+1=>by
  show(C (Zp.red a)+X*po p l).f (i+1)=Zp.red (l.getD i 0)
  rw[f_add,X_mul_f,if_pos (by omega),show i+1-1=i by omega,po_f l i]
  show(if i+1=0 then Zp.red a else 0)+_=_
  rw[if_neg (by omega),zero_add]
def ladd : List Int → List Int → List Int
 | [],m=>m
 | a :: l,[]=>a :: l
 | a :: l,b :: m=>(a+b) :: ladd l m
def lsc (c : Int) : List Int → List Int
 | []=>[]
 | a :: l=>(c*a) :: lsc c l
def lmul : List Int → List Int → List Int
 | [],_=>[]
 | a :: l,m=>if a=0 then 0 :: lmul l m else ladd (lsc a m) (0 :: lmul l m)
def lnil : List Int → Bool
 | []=>true
 | a :: l=>decide (a=0)&&lnil l
def leq : List Int → List Int → Bool
 | [],m=>lnil m
 | a :: l,[]=>lnil (a :: l)
 | a :: l,b :: m=>decide (a=b)&&leq l m
theorem C_red_add (a b:Int):(C (Zp.red (a+b)):Pol (Zp p))=C (Zp.red a)+C (Zp.red b):=by rw[Zp.red_add,C_add]
theorem C_red_mul (a b:Int):(C (Zp.red (a*b)):Pol (Zp p))=C (Zp.red a)*C (Zp.red b):=by rw[Zp.red_mul,C_mul_C]
theorem C_red_zero:(C (Zp.red 0):Pol (Zp p))=0:=C_zero
theorem po_add : ∀ l m : List Int, po p (ladd l m) = po p l + po p m
 | [],m=>(zero_add _).symm
 | a :: l,[]=>(Crg.add_zero _).symm
 | a :: l,b :: m=>by
  show C (Zp.red (a+b))+X*po p (ladd l m)=C (Zp.red a)+X*po p l+(C (Zp.red b)+X*po p m)
  rw[C_red_add,po_add l m]
  exact RE.eq [C (Zp.red a),C (Zp.red b),X,po p l,po p m] (t0+t1+t2*(t3+t4)) (t0+t2*t3+(t1+t2*t4)) rfl
theorem po_sc (c : Int) : ∀ l : List Int, po p (lsc c l) = C (Zp.red c) * po p l
 | []=>(mul_zero _).symm
 | a :: l=>by
  show C (Zp.red (c*a))+X*po p (lsc c l)=C (Zp.red c)*(C (Zp.red a)+X*po p l)
  rw[C_red_mul,po_sc c l]
  exact RE.eq [C (Zp.red c),C (Zp.red a),X,po p l] (t0*t1+t2*(t0*t3)) (t0*(t1+t2*t3)) rfl
theorem po_mul : ∀ l m : List Int, po p (lmul l m) = po p l * po p m
 | [],m=>(zero_mul _).symm
 | a :: l,m=>by
  show po p (if a=0 then 0 :: lmul l m else ladd (lsc a m) (0 :: lmul l m))=(C (Zp.red a)+X*po p l)*po p m
  have e1:po p (0 :: lmul l m)=X*(po p l*po p m):=by
   show C (Zp.red 0)+X*po p (lmul l m)=_
   rw[C_red_zero,zero_add,po_mul l m]
  split
  ·next h =>
   rw[e1,h,C_red_zero,zero_add,Crg.mul_assoc]
  ·rw[po_add,po_sc,e1]
   exact RE.eq [C (Zp.red a),X,po p l,po p m] (t0*t3+t1*(t2*t3)) ((t0+t1*t2)*t3) rfl
theorem po_nil : ∀ {l : List Int}, lnil l = true → po p l = 0
 | [],_=>rfl
 | a :: l,h=>by
  have h:(decide (a=0)&&lnil l)=true:=h
  rw[Bool.and_eq_true]at h
  show C (Zp.red a)+X*po p l=0
  rw[of_decide_eq_true h.1,po_nil h.2,C_red_zero,mul_zero,zero_add]
theorem po_eq : ∀ {l m : List Int}, leq l m = true → po p l = po p m
 | [],m,h=>(po_nil (p:=p) (l:=m) h).symm
 | a :: l,[],h=>po_nil (l:=a :: l) h
 | a :: l,b :: m,h=>by
  have h:(decide (a=b)&&leq l m)=true:=h
  rw[Bool.and_eq_true]at h
  show C (Zp.red a)+X*po p l=C (Zp.red b)+X*po p m
  rw[of_decide_eq_true h.1,po_eq h.2]
def lx : Nat → List Int
 | 0=>[1]
 | n+1=>0 :: lx n
theorem po_lx : ∀ n, po p (lx n) = pw X n
 | 0=>by
  show C (Zp.red 1)+X*0=1
  rw[mul_zero,Crg.add_zero]
  rfl
 | n+1=>by
  show C (Zp.red 0)+X*po p (lx n)=pw X n*X
  rw[C_red_zero,zero_add,po_lx n,Crg.mul_comm]
def xn1 (n:Nat):List Int:=ladd [-1] (lx n)
theorem po_xn1 (n:Nat):po p (xn1 n)=pw X n-1:=by
 show po p (ladd [-1] (lx n))=_
 rw[po_add,po_lx]
 have e:po p [-1] = -1:=by
  show C (Zp.red (-1))+X*0 = -1
  rw[mul_zero,Crg.add_zero,Zp.red_neg]
  refine neg_eq ?_
  rw[← C_one,← C_add]
  show C (1 + -1)=0
  rw[Crg.add_neg]
  exact C_zero
 rw[e,Crg.add_comm,← Crg.sub_def]
def cyL:List (List Int):=[[],[-1,1],[1,1],[1,1,1],[1,0,1],[1,1,1,1,1],[1,-1,1],[1,1,1,1,1,1,1],[1,0,0,0,1],[1,0,0,1,0,0,1],[1,-1,1,-1,1],[1,1,1,1,1,1,1,1,1,1,1],[1,0,-1,0,1],[1,1,1,1,1,1,1,1,1,1,1,1,1],[1,-1,1,-1,1,-1,1],[1,-1,0,1,-1,1,0,-1,1],[1,0,0,0,0,0,0,0,1],[1,1,1,1,1,1,1,1,1,1,1,1,1,1,1,1,1],[1,0,0,-1,0,0,1],[1,1,1,1,1,1,1,1,1,1,1,1,1,1,1,1,1,1,1],[1,0,-1,0,1,0,-1,0,1],[1,-1,0,1,-1,0,1,0,-1,1,0,-1,1],[1,-1,1,-1,1,-1,1,-1,1,-1,1],[1,1,1,1,1,1,1,1,1,1,1,1,1,1,1,1,1,1,1,1,1,1,1],[1,0,0,0,-1,0,0,0,1],[1,0,0,0,0,1,0,0,0,0,1,0,0,0,0,1,0,0,0,0,1],[1,-1,1,-1,1,-1,1,-1,1,-1,1,-1,1],[1,0,0,0,0,0,0,0,0,1,0,0,0,0,0,0,0,0,1],[1,0,-1,0,1,0,-1,0,1,0,-1,0,1],[1,1,1,1,1,1,1,1,1,1,1,1,1,1,1,1,1,1,1,1,1,1,1,1,1,1,1,1,1],[1,1,0,-1,-1,-1,0,1,1],[1,1,1,1,1,1,1,1,1,1,1,1,1,1,1,1,1,1,1,1,1,1,1,1,1,1,1,1,1,1,1],[1,0,0,0,0,0,0,0,0,0,0,0,0,0,0,0,1],[1,-1,0,1,-1,0,1,-1,0,1,-1,1,0,-1,1,0,-1,1,0,-1,1],[1,-1,1,-1,1,-1,1,-1,1,-1,1,-1,1,-1,1,-1,1],[1,-1,0,0,0,1,-1,1,-1,0,1,-1,1,-1,1,0,-1,1,-1,1,0,0,0,-1,1],[1,0,0,0,0,0,-1,0,0,0,0,0,1],[1,1,1,1,1,1,1,1,1,1,1,1,1,1,1,1,1,1,1,1,1,1,1,1,1,1,1,1,1,1,1,1,1,1,1,1,1],[1,-1,1,-1,1,-1,1,-1,1,-1,1,-1,1,-1,1,-1,1,-1,1],[1,-1,0,1,-1,0,1,-1,0,1,-1,0,1,0,-1,1,0,-1,1,0,-1,1,0,-1,1],[1,0,0,0,-1,0,0,0,1,0,0,0,-1,0,0,0,1],[1,1,1,1,1,1,1,1,1,1,1,1,1,1,1,1,1,1,1,1,1,1,1,1,1,1,1,1,1,1,1,1,1,1,1,1,1,1,1,1,1],[1,1,0,-1,-1,0,1,0,-1,-1,0,1,1],[1,1,1,1,1,1,1,1,1,1,1,1,1,1,1,1,1,1,1,1,1,1,1,1,1,1,1,1,1,1,1,1,1,1,1,1,1,1,1,1,1,1,1],[1,0,-1,0,1,0,-1,0,1,0,-1,0,1,0,-1,0,1,0,-1,0,1],[1,0,0,-1,0,0,0,0,0,1,0,0,-1,0,0,1,0,0,0,0,0,-1,0,0,1],[1,-1,1,-1,1,-1,1,-1,1,-1,1,-1,1,-1,1,-1,1,-1,1,-1,1,-1,1],[1,1,1,1,1,1,1,1,1,1,1,1,1,1,1,1,1,1,1,1,1,1,1,1,1,1,1,1,1,1,1,1,1,1,1,1,1,1,1,1,1,1,1,1,1,1,1],[1,0,0,0,0,0,0,0,-1,0,0,0,0,0,0,0,1],[1,0,0,0,0,0,0,1,0,0,0,0,0,0,1,0,0,0,0,0,0,1,0,0,0,0,0,0,1,0,0,0,0,0,0,1,0,0,0,0,0,0,1],[1,0,0,0,0,-1,0,0,0,0,1,0,0,0,0,-1,0,0,0,0,1],[1,-1,0,1,-1,0,1,-1,0,1,-1,0,1,-1,0,1,-1,1,0,-1,1,0,-1,1,0,-1,1,0,-1,1,0,-1,1],[1,0,-1,0,1,0,-1,0,1,0,-1,0,1,0,-1,0,1,0,-1,0,1,0,-1,0,1],[1,1,1,1,1,1,1,1,1,1,1,1,1,1,1,1,1,1,1,1,1,1,1,1,1,1,1,1,1,1,1,1,1,1,1,1,1,1,1,1,1,1,1,1,1,1,1,1,1,1,1,1,1],[1,0,0,0,0,0,0,0,0,-1,0,0,0,0,0,0,0,0,1],[1,-1,0,0,0,1,-1,0,0,0,1,0,-1,0,0,1,0,-1,0,0,1,0,0,-1,0,1,0,0,-1,0,1,0,0,0,-1,1,0,0,0,-1,1],[1,0,0,0,-1,0,0,0,1,0,0,0,-1,0,0,0,1,0,0,0,-1,0,0,0,1],[1,-1,0,1,-1,0,1,-1,0,1,-1,0,1,-1,0,1,-1,0,1,0,-1,1,0,-1,1,0,-1,1,0,-1,1,0,-1,1,0,-1,1],[1,-1,1,-1,1,-1,1,-1,1,-1,1,-1,1,-1,1,-1,1,-1,1,-1,1,-1,1,-1,1,-1,1,-1,1],[1,1,1,1,1,1,1,1,1,1,1,1,1,1,1,1,1,1,1,1,1,1,1,1,1,1,1,1,1,1,1,1,1,1,1,1,1,1,1,1,1,1,1,1,1,1,1,1,1,1,1,1,1,1,1,1,1,1,1],[1,0,1,0,0,0,-1,0,-1,0,-1,0,0,0,1,0,1]]
def cy (n:Nat):List Int:=cyL.getD n []
def rst (n m:Nat):List Int:=(List.range n).foldr (fun d s=>if d≠0/\n%d=0/\m%d≠0 then lmul (cy d) s else s) [1]
def chk1 (n m:Nat):Bool:=decide (m=0)||decide (n%m≠0)||leq (lmul (cy n) (lmul (xn1 m) (rst n m))) (xn1 n)
def chkA (n:Nat):Bool:=(List.range n).all (chk1 n)
def rst1 (n:Nat):List Int:=(List.range n).foldr (fun d s=>if d≠0/\n%d=0 then lmul (cy d) s else s) [1]
def chkW (n:Nat):Bool:=decide (n=0)||leq (lmul (cy n) (rst1 n)) (xn1 n)
def eul (n:Nat):Bool:=decide (n=0)||(List.range n).all fun r=>decide (Nat.gcd r n≠1)||decide (r^((cy n).length-1)%n=1%n)
def monB (n:Nat):Bool:=decide (n=0)||(decide ((cy n).getD ((cy n).length-1) 0=1)&&decide (2≤(cy n).length)&&decide ((cy n).length≤61)&&(cy n).all fun c=>decide (c=0)||decide (c=1)||decide (c = -1))
theorem chkA_ok:((List.range 61).all chkA)=true:=by decide +kernel
theorem chkW_ok:((List.range 61).all chkW)=true:=by decide +kernel
theorem eul_ok:((List.range 61).all eul)=true:=by decide +kernel
theorem monB_ok:((List.range 61).all monB)=true:=by decide +kernel
theorem all_at {f:Nat->Bool} {n m:Nat} (h:((List.range m).all f)=true) (hn:n<m):f n=true:=List.all_eq_true.1 h n (List.mem_range.2 hn)
theorem euler {q n:Nat} (h1:1≤n) (h2:n≤60) (hn:Nat.gcd q n=1):q^((cy n).length-1)%n=1%n:=by
 have h:=all_at eul_ok (show n<61 by omega)
 simp only[eul,Bool.or_eq_true,decide_eq_true_eq]at h
 rcases h with h | h
 ·omega
 ·have h3:=all_at h (Nat.mod_lt q h1)
  simp only[Bool.or_eq_true,decide_eq_true_eq]at h3
  rcases h3 with h3 | h3
  ·exact absurd (by rw[← hn,Nat.gcd_comm q n];exact(Nat.gcd_rec n q).symm) h3
  ·rwa [← Nat.pow_mod]at h3
theorem whole {n:Nat} (h1:1≤n) (h2:n≤60):Dvs (po p (cy n)) (pw X n-1):=by
 have h:=all_at chkW_ok (show n<61 by omega)
 simp only[chkW,Bool.or_eq_true,decide_eq_true_eq]at h
 rcases h with h | h
 ·omega
 ·have e:=po_eq (p:=p) h
  rw[po_mul,po_xn1]at e
  exact⟨_,e.symm⟩
theorem part {n m:Nat} (h1:1≤m) (hm:m<n) (hd:m∣n) (h2:n≤60):Dvs (po p (cy n)*(pw X m-1)) (pw X n-1):=by
 have h:=all_at (all_at chkA_ok (show n<61 by omega)) hm
 simp only[chk1,Bool.or_eq_true,decide_eq_true_eq]at h
 rcases h with(h | h) | h
 ·omega
 ·exact absurd (Nat.mod_eq_zero_of_dvd hd) h
 ·have e:=po_eq (p:=p) h
  rw[po_mul,po_mul,po_xn1,po_xn1,← Crg.mul_assoc]at e
  exact⟨_,e.symm⟩
theorem mon {n:Nat} (h1:1≤n) (h2:n≤60):(cy n).getD ((cy n).length-1) 0=1/\2≤(cy n).length/\(cy n).length≤61/\∀ c∈cy n,c=0∨c=1∨c = -1:=by
 have h:=all_at monB_ok (show n<61 by omega)
 simp only[monB,Bool.or_eq_true,Bool.and_eq_true,decide_eq_true_eq,List.all_eq_true]at h
 rcases h with h | ⟨⟨⟨a,b⟩,c⟩,d⟩
 ·omega
 ·refine⟨a,b,c,fun x hx=>?_⟩
  rcases d x hx with(e | e) | e
  ·exact .inl e
  ·exact .inr (.inl e)
  ·exact .inr (.inr e)
theorem po_len {n:Nat} (h1:1≤n) (h2:n≤60):(po p (cy n)).len=(cy n).length/\(po p (cy n)).lead=1:=by
 obtain⟨a,b,_,_⟩:=mon h1 h2
 have e:(po p (cy n)).len=(cy n).length-1+1:=len_eq (fun j hj=>by
  rw[po_f,List.getD_eq_getElem?_getD,List.getElem?_eq_none (by omega)]
  rfl) (by
  rw[po_f,a]
  exact Fld.one_ne)
 refine⟨by omega,?_⟩
 show(po p (cy n)).f ((po p (cy n)).len-1)=1
 rw[e,po_f,Nat.add_sub_cancel,a]
 rfl
theorem sqf {n:Nat} (h1:1≤n) (hn:n%p.toNat≠0):Sqf (pw X n-1:Pol (Zp p)):=fun P hP ⟨h,e⟩=>by
 have e0:dv (1:Pol (Zp p))=0:=by
  rw[← C_one,dv_mn]
  exact(congrArg (fun c=>mn c (0-1)) (zero_mul 1)).trans (mn_zero _)
 have e1:X*dv (pw X n-1:Pol (Zp p))=nc n*pw X n:=by
  rw[dv_sub,e0,sub_zero,pw_X,dv_mn,Crg.mul_one]
  show mn 1 1*mn (nc n) (n-1)=_
  rw[mn_mn,one_mul,show 1+(n-1)=n by omega,nc_C,mn_mn,Crg.mul_one,Nat.zero_add]
 have h2:Dvs P (dv (pw X n-1:Pol (Zp p))):=by
  rw[e,Crg.mul_assoc,dv_mul]
  refine Dvs.add ?_ ?_
  ·rw[Crg.mul_comm]
   exact Dvs.mul (Dvs.mul ⟨1,(Crg.mul_one P).symm⟩ _) _
  ·exact Dvs.mul ⟨1,(Crg.mul_one P).symm⟩ _
 have h3:Dvs P (nc n*pw X n):=by
  rw[← e1]
  exact h2.mul' X
 have h4:Dvs P (nc n*(pw X n-1)):=Dvs.mul' ⟨P*h,by rw[e,Crg.mul_assoc]⟩ _
 have h5:=h3.sub h4
 have e5:nc n*pw X n-nc n*(pw X n-1)=(nc n:Pol (Zp p)):=RE.eq [nc n,pw (X:Pol (Zp p)) n] (t0*t1-t0*(t1-1)) t0 rfl
 rw[e5]at h5
 exact Pol.nc_dvs hP hn h5
theorem gcd_dvs (P:Pol (Zp p)):∀ a b:Nat,Cgr P (pw X a) 1->Cgr P (pw X b) 1->Cgr P (pw X (Nat.gcd a b)) 1:=by
 intro a b
 induction a,b using Nat.gcd.induction with
 | H0 b=>intro _ h;rwa [Nat.gcd_zero_left]
 | H1 a b ha ih =>
  intro h1 h2
  rw[Nat.gcd_rec]
  refine ih ?_ h1
  have e:pw (X:Pol (Zp p)) b=pw (pw X a) (b / a)*pw X (b%a):=by rw[← pw_mul,← pw_add,Nat.div_add_mod]
  rw[e]at h2
  have h3:=(h1.pw (b / a)).mul (Cgr.refl P (pw X (b%a)))
  rw[one_pw,one_mul]at h3
  exact h3.symm.trans h2
variable {n:Nat} {P:Pol (Zp p)}
theorem one_iff (h1:1≤n) (h2:n≤60) (hn:n%p.toNat≠0) (hP:Irr P) (hd:Dvs P (po p (cy n))) (m:Nat):Cgr P (pw X m) 1↔n∣m:=by
 have hw:Cgr P (pw X n) 1:=hd.trans (whole h1 h2)
 refine⟨fun h=>?_,fun⟨k,e⟩=>?_⟩
 ·have h3:=gcd_dvs P m n h hw
  have h4:Nat.gcd m n∣n:=Nat.gcd_dvd_right m n
  have h5:=Nat.le_of_dvd h1 h4
  have h6:0<Nat.gcd m n:=Nat.gcd_pos_of_pos_right m h1
  rcases Nat.lt_or_ge (Nat.gcd m n) n with h7 | h7
  ·exact absurd ((hd.mul_mul P).trans (by
    obtain⟨c,hc⟩:=h3
    obtain⟨e,he⟩:=part (p:=p) h6 h7 h4 h2
    exact⟨c*e,by rw[he,hc];exact RE.eq [po p (cy n),P,c,e] (t0*(t1*t2)*t3) (t0*t1*(t2*t3)) rfl⟩)) (sqf h1 hn P hP)
  ·rw[show n=Nat.gcd m n by omega]
   exact Nat.gcd_dvd_left m n
 ·rw[e,pw_mul]
  have:=hw.pw k
  rwa [one_pw]at this
theorem not_X (h1:1≤n) (h2:n≤60) (hP:Irr P) (hd:Dvs P (po p (cy n))):¬ Dvs P X:=fun h=>by
 have h3:=hd.trans (whole h1 h2)
 have h4:Dvs P (pw X n):=by
  rw[show n=n-1+1 by omega]
  exact h.mul' _
 have h5:=h4.sub h3
 have e5:pw X n-(pw X n-1)=(1:Pol (Zp p)):=RE.eq [pw (X:Pol (Zp p)) n] (t0-(t0-1)) 1 rfl
 rw[e5]at h5
 exact hP.not_one h5
theorem deg_iff (h1:1≤n) (h2:n≤60) (hn:n%p.toNat≠0) (hP:Irr P) (hd:Dvs P (po p (cy n))) (d:Nat):P.len-1∣d↔p.toNat^d%n=1%n:=by
 rw[← deg_dvd hP]
 have hpos:1≤p.toNat^d:=Nat.pow_pos (by have:=two_le (p:=p);omega)
 have e:pw (X:Pol (Zp p)) (p.toNat^d)-X=X*(pw X (p.toNat^d-1)-1):=by
  rw[show pw (X:Pol (Zp p)) (p.toNat^d)=pw X (p.toNat^d-1)*X by
   show _=pw X (p.toNat^d-1+1)
   rw[show p.toNat^d-1+1=p.toNat^d by omega]]
  exact RE.eq [pw (X:Pol (Zp p)) (p.toNat^d-1),X] (t0*t1-t1) (t1*(t0-1)) rfl
 have h3:Cgr P (pw X (p.toNat^d)) X↔Cgr P (pw X (p.toNat^d-1)) 1:=by
  show Dvs P _↔Dvs P _
  rw[e]
  exact⟨fun h=>(hP.prime h).resolve_left (not_X h1 h2 hP hd),fun h=>h.mul' _⟩
 rw[h3,one_iff h1 h2 hn hP hd]
 constructor
 ·intro ⟨k,hk⟩
  rw[show p.toNat^d=1+n*k by omega,Nat.add_mul_mod_self_left]
 ·intro h
  exact Nat.dvd_of_mod_eq_zero (Nat.sub_mod_eq_zero_of_mod_eq h)
theorem ex_irr_of (h1:1≤n) (h2:n≤60):∃ P:Pol (Zp p),Irr P/\Dvs P (po p (cy n)) :=
 ex_irr _ _ (Nat.le_refl _) (by rw[(po_len h1 h2).1];exact(mon h1 h2).2.1)
theorem deg_eq (h1:1≤n) (h2:n≤60) (hn:n%p.toNat≠0) {Q:Pol (Zp p)} (hP:Irr P) (hd:Dvs P (po p (cy n))) (hQ:Irr Q) (hq:Dvs Q (po p (cy n))):Q.len=P.len:=by
 have h:=fun d=>(deg_iff h1 h2 hn hP hd d).trans (deg_iff h1 h2 hn hQ hq d).symm
 have a:=(h (Q.len-1)).2 (Nat.dvd_refl _)
 have b:=(h (P.len-1)).1 (Nat.dvd_refl _)
 have:=Nat.dvd_antisymm a b
 have:=hP.two
 have:=hQ.two
 omega
theorem cop_of (hn:n%p.toNat≠0):Nat.gcd p.toNat n=1:=by
 have h2:=hp.two
 have hd:Nat.gcd p.toNat n∣p.toNat:=Nat.gcd_dvd_left _ _
 obtain⟨b,hb⟩:=hp.inv (n:Int) (fun e=>hn (by
  have:=Int.emod_emod_of_dvd (n:Int) (Int.dvd_refl p)
  have e2:((n%p.toNat:Nat):Int)=(n:Int)%p:=by rw[Int.natCast_emod,Int.toNat_of_nonneg (by omega)]
  omega))
 have h3:((Nat.gcd p.toNat n:Nat):Int)∣p:=by
  have:=Int.natCast_dvd_natCast.2 hd
  rwa [Int.toNat_of_nonneg (by omega)]at this
 have h4:((Nat.gcd p.toNat n:Nat):Int)∣(n:Int)*b:=Int.dvd_mul_of_dvd_left (Int.natCast_dvd_natCast.2 (Nat.gcd_dvd_right _ _))
 have h5:((Nat.gcd p.toNat n:Nat):Int)∣1:=by
  have e:=Int.mul_ediv_add_emod ((n:Int)*b) p
  rw[hb]at e
  have e1:(1:Int)=(n:Int)*b-p*((n:Int)*b / p):=by omega
  rw[e1]
  exact Int.dvd_sub h4 (Int.dvd_mul_of_dvd_left h3)
 have h6:=Int.natCast_dvd_natCast (m:=Nat.gcd p.toNat n) (n:=1) |>.1 h5
 exact Nat.dvd_one.1 h6
end
end Spl
end Go.Proofs.YtibaocbpeaejkaaGreat
/- What is run at the orders up to 60. -/
namespace Go.Proofs.YtibaocbpeaejkaaGreat
open Go.RowKit
namespace Spl
noncomputable def runK (f:FuncId) (n:Nat) (Y:V):Bool:=(pureX orcP (runY ER orcP dvX okF dvI 1000 40) f [.c (.int .i64 n)]).map (fun X=>sameV X Y) == some true
theorem runK_ok {f:FuncId} {n:Nat} {Y:V} (h:runK f n Y=true):FnOK Tryz.prog false f [.c (.int .i64 n)] Y:=runY_same orcP_ok (inl:=dvI) (by
 unfold runK at h
 exact eq_of_beq h)
def ph (n:Nat):Nat:=(cy n).length-1
def dvl (m:Nat):List Nat:=(List.range (m+1)).filter fun d=>decide (d≠0)&&decide (m%d=0)
noncomputable def cycB (n:Nat):Bool:=runK 20 n (.t2 (.c (nl (cy n).length fun i=>(cy n).getD i 0)) (.c (.int .i64 0)))
noncomputable def rphB (n:Nat):Bool:=runK 24 n (.c (.int .i64 (ph n:Nat)))
noncomputable def rdvB (n:Nat):Bool:=runK 13 (ph n) (.c (.row 1 (dvl (ph n)).length fun i _ => .int .i64 ((dvl (ph n)).getD i 0:Nat)))
theorem run_at {B:Nat->Bool} {n c s w:Nat} (h1:1≤n) (h:(List.range w).all (fun k=>B (k+s))=true) (e:(n-1) / w=c) (h0:0<w:=by decide) (hs:s=w*c+1:=by rfl):B n=true:=by
 have d:=Nat.div_add_mod (n-1) w
 have l:=Nat.mod_lt (n-1) h0
 rw[e]at d
 have:=List.all_eq_true.1 h (n-s) (List.mem_range.2 (by omega))
 rwa [show n-s+s=n by omega]at this
end Spl
end Go.Proofs.YtibaocbpeaejkaaGreat
/- Factors of cyclotomic polynomials; the order among the divisors. -/
namespace Go.Proofs.YtibaocbpeaejkaaGreat
open Go.RowKit
namespace Spl
section
variable {p:Int} [hp:Prm p]
theorem deg_sum {L:List (Pol (Zp p) × Nat)} {k:Nat} (h:∀ c∈L,c.1.len=k+1/\c.2=1):L.foldr (fun c s=>c.2*(c.1.len-1)+s) 0=L.length*k:=by
 induction L with
 | nil=>simp
 | cons c L ih =>
  obtain⟨h1,h2⟩:=h c (List.mem_cons_self ..)
  rw[List.foldr_cons,ih fun d hd=>h d (List.mem_cons_of_mem _ hd),h1,h2,List.length_cons,Nat.add_mul]
  omega
theorem split_fac {n:Nat} (h1:1≤n) (h2:n≤60) (hn:n%p.toNat≠0) {L:List (Pol (Zp p) × Nat)} (hL:FacL (po p (cy n)) 1 L):∃ k,1≤k/\(∀ d,k∣d↔p.toNat^d%n=1%n)/\k∣(cy n).length-1/\(∀ i,i<L.length->(L.getD i (0,0)).1.len=k+1/\(L.getD i (0,0)).2=1)/\L.length*k=(cy n).length-1:=by
 obtain⟨P,iP,dP⟩:=ex_irr_of (p:=p) h1 h2
 have hP2:=iP.two
 have hlen:=(po_len (p:=p) h1 h2).1
 have h0:po p (cy n)≠0:=Pol.ne_of_len (by rw[hlen];have:=(mon h1 h2).2.1;omega)
 have hsq:Pol.Sqf (po p (cy n)):=(sqf h1 hn).of_dvs (whole h1 h2)
 have hall:∀ c∈L,c.1.len=P.len-1+1/\c.2=1:=fun c hc=>by
  obtain⟨a1,_,a3,a4⟩:=hL.all c hc
  have e1:=deg_eq h1 h2 hn iP dP a1 a3
  have e2:=(sqf_val h0).1 hsq c.1 a1
  have e3:=(val_pos a1 h0).1 a3
  omega
 have hd:=hL.deg h0
 rw[deg_sum hall,hlen]at hd
 refine⟨P.len-1,by omega,deg_iff h1 h2 hn iP dP,(deg_iff h1 h2 hn iP dP _).2 (euler h1 h2 (cop_of hn)),fun i hi=>?_,by omega⟩
 refine hall _ ?_
 rw[List.getD_eq_getElem?_getD,List.getElem?_eq_getElem hi]
 exact List.getElem_mem hi
end
theorem dvl_mem {m d:Nat}:d∈dvl m↔d<m+1/\d≠0/\m%d=0:=by
 simp only[dvl,List.mem_filter,List.mem_range,Bool.and_eq_true,decide_eq_true_eq]
theorem dvl_len (m:Nat):(dvl m).length≤m+1:=Nat.le_trans (List.length_filter_le _ _) (Nat.le_of_eq List.length_range)
theorem dvl_getD {m i:Nat} (hi:i<(dvl m).length):(dvl m).getD i 0=(dvl m)[i]/\(dvl m)[i]∈dvl m:=by
 rw[List.getD_eq_getElem?_getD,List.getElem?_eq_getElem hi]
 exact⟨rfl,List.getElem_mem hi⟩
theorem dvl_sorted (m:Nat):(dvl m).Pairwise (·<·):=List.Pairwise.filter _ List.pairwise_lt_range
theorem dvl_find {m k:Nat} (hm:1≤m) (hk:k∣m):∃ j,j<(dvl m).length/\(dvl m).getD j 0=k/\∀ i,i<j->¬ k∣(dvl m).getD i 0:=by
 have hk0:0<k:=Nat.pos_of_dvd_of_pos hk hm
 have hmem:k∈dvl m:=dvl_mem.2 ⟨by have:=Nat.le_of_dvd hm hk;omega,by omega,Nat.mod_eq_zero_of_dvd hk⟩
 obtain⟨j,hj,e⟩:=List.getElem_of_mem hmem
 refine⟨j,hj,by rw[(dvl_getD hj).1,e],fun i hi hd=>?_⟩
 have hi2:i<(dvl m).length:=by omega
 obtain⟨e1,e2⟩:=dvl_getD hi2
 rw[e1]at hd
 have h3:=List.pairwise_iff_getElem.1 (dvl_sorted m) i j hi2 hj hi
 rw[e]at h3
 have h4:=(dvl_mem.1 e2).2.1
 have:=Nat.le_of_dvd (by omega) hd
 omega
end Spl
end Go.Proofs.YtibaocbpeaejkaaGreat
/- Runs of cyclotomic.Polynomial (1). -/
namespace Go.Proofs.YtibaocbpeaejkaaGreat
open Go.RowKit
namespace Spl
theorem cyc_r0:(List.range 2).all (fun k=>cycB (k+1))=true:=by kernel_rfl
theorem cyc_r1:(List.range 2).all (fun k=>cycB (k+3))=true:=by kernel_rfl
theorem cyc_r2:(List.range 2).all (fun k=>cycB (k+5))=true:=by kernel_rfl
theorem cyc_r3:(List.range 2).all (fun k=>cycB (k+7))=true:=by kernel_rfl
theorem cyc_r4:(List.range 2).all (fun k=>cycB (k+9))=true:=by kernel_rfl
theorem cyc_r5:(List.range 2).all (fun k=>cycB (k+11))=true:=by kernel_rfl
theorem cyc_r6:(List.range 2).all (fun k=>cycB (k+13))=true:=by kernel_rfl
theorem cyc_r7:(List.range 2).all (fun k=>cycB (k+15))=true:=by kernel_rfl
theorem cyc_r8:(List.range 2).all (fun k=>cycB (k+17))=true:=by kernel_rfl
theorem cyc_r9:(List.range 2).all (fun k=>cycB (k+19))=true:=by kernel_rfl
end Spl
end Go.Proofs.YtibaocbpeaejkaaGreat
/- Runs of cyclotomic.Polynomial (2). -/
namespace Go.Proofs.YtibaocbpeaejkaaGreat
open Go.RowKit
namespace Spl
theorem cyc_r10:(List.range 2).all (fun k=>cycB (k+21))=true:=by kernel_rfl
theorem cyc_r11:(List.range 2).all (fun k=>cycB (k+23))=true:=by kernel_rfl
theorem cyc_r12:(List.range 2).all (fun k=>cycB (k+25))=true:=by kernel_rfl
theorem cyc_r13:(List.range 2).all (fun k=>cycB (k+27))=true:=by kernel_rfl
theorem cyc_r14:(List.range 2).all (fun k=>cycB (k+29))=true:=by kernel_rfl
theorem cyc_r15:(List.range 2).all (fun k=>cycB (k+31))=true:=by kernel_rfl
theorem cyc_r16:(List.range 2).all (fun k=>cycB (k+33))=true:=by kernel_rfl
end Spl
end Go.Proofs.YtibaocbpeaejkaaGreat
/- Runs of cyclotomic.Polynomial (3). -/
namespace Go.Proofs.YtibaocbpeaejkaaGreat
open Go.RowKit
namespace Spl
theorem cyc_r17:(List.range 2).all (fun k=>cycB (k+35))=true:=by kernel_rfl
theorem cyc_r18:(List.range 2).all (fun k=>cycB (k+37))=true:=by kernel_rfl
theorem cyc_r19:(List.range 2).all (fun k=>cycB (k+39))=true:=by kernel_rfl
theorem cyc_r20:(List.range 2).all (fun k=>cycB (k+41))=true:=by kernel_rfl
theorem cyc_r21:(List.range 2).all (fun k=>cycB (k+43))=true:=by kernel_rfl
theorem cyc_r22:(List.range 2).all (fun k=>cycB (k+45))=true:=by kernel_rfl
theorem cyc_r23:(List.range 2).all (fun k=>cycB (k+47))=true:=by kernel_rfl
end Spl
end Go.Proofs.YtibaocbpeaejkaaGreat
/- Runs of cyclotomic.Polynomial (4). -/
namespace Go.Proofs.YtibaocbpeaejkaaGreat
open Go.RowKit
namespace Spl
theorem cyc_r24:(List.range 2).all (fun k=>cycB (k+49))=true:=by kernel_rfl
theorem cyc_r25:(List.range 2).all (fun k=>cycB (k+51))=true:=by kernel_rfl
theorem cyc_r26:(List.range 2).all (fun k=>cycB (k+53))=true:=by kernel_rfl
theorem cyc_r27:(List.range 2).all (fun k=>cycB (k+55))=true:=by kernel_rfl
theorem cyc_r28:(List.range 2).all (fun k=>cycB (k+57))=true:=by kernel_rfl
end Spl
end Go.Proofs.YtibaocbpeaejkaaGreat
/- Runs of cyclotomic.Polynomial (5). -/
namespace Go.Proofs.YtibaocbpeaejkaaGreat
open Go.RowKit
namespace Spl
theorem cyc_59:cycB 59=true:=by kernel_rfl
theorem cyc_60:cycB 60=true:=by kernel_rfl
theorem cyc_r29:(List.range 2).all (fun k=>cycB (k+59))=true:=List.all_eq_true.2 fun k hk=>by
 have h:=List.mem_range.1 hk
 match k,h with
 | 0,_=>exact cyc_59
 | 1,_=>exact cyc_60
end Spl
end Go.Proofs.YtibaocbpeaejkaaGreat
/- Runs at the orders up to 60, joined. -/
namespace Go.Proofs.YtibaocbpeaejkaaGreat
open Go.RowKit
namespace Spl
theorem rph_r0:(List.range 20).all (fun k=>rphB (k+1))=true:=by kernel_rfl
theorem rph_r1:(List.range 20).all (fun k=>rphB (k+21))=true:=by kernel_rfl
theorem rph_r2:(List.range 20).all (fun k=>rphB (k+41))=true:=by kernel_rfl
theorem rdv_r0:(List.range 20).all (fun k=>rdvB (k+1))=true:=by kernel_rfl
theorem rdv_r1:(List.range 20).all (fun k=>rdvB (k+21))=true:=by kernel_rfl
theorem rdv_r2:(List.range 20).all (fun k=>rdvB (k+41))=true:=by kernel_rfl
theorem cyc_run {n:Nat} (h1:1≤n) (h2:n≤60):cycB n=true:=by
 have hlt:(n-1) / 2<30:=by omega
 match hc:(n-1) / 2,hlt with
 | 0,_=>exact run_at h1 cyc_r0 hc
 | 1,_=>exact run_at h1 cyc_r1 hc
 | 2,_=>exact run_at h1 cyc_r2 hc
 | 3,_=>exact run_at h1 cyc_r3 hc
 | 4,_=>exact run_at h1 cyc_r4 hc
 | 5,_=>exact run_at h1 cyc_r5 hc
 | 6,_=>exact run_at h1 cyc_r6 hc
 | 7,_=>exact run_at h1 cyc_r7 hc
 | 8,_=>exact run_at h1 cyc_r8 hc
 | 9,_=>exact run_at h1 cyc_r9 hc
 | 10,_=>exact run_at h1 cyc_r10 hc
 | 11,_=>exact run_at h1 cyc_r11 hc
 | 12,_=>exact run_at h1 cyc_r12 hc
 | 13,_=>exact run_at h1 cyc_r13 hc
 | 14,_=>exact run_at h1 cyc_r14 hc
 | 15,_=>exact run_at h1 cyc_r15 hc
 | 16,_=>exact run_at h1 cyc_r16 hc
 | 17,_=>exact run_at h1 cyc_r17 hc
 | 18,_=>exact run_at h1 cyc_r18 hc
 | 19,_=>exact run_at h1 cyc_r19 hc
 | 20,_=>exact run_at h1 cyc_r20 hc
 | 21,_=>exact run_at h1 cyc_r21 hc
 | 22,_=>exact run_at h1 cyc_r22 hc
 | 23,_=>exact run_at h1 cyc_r23 hc
 | 24,_=>exact run_at h1 cyc_r24 hc
 | 25,_=>exact run_at h1 cyc_r25 hc
 | 26,_=>exact run_at h1 cyc_r26 hc
 | 27,_=>exact run_at h1 cyc_r27 hc
 | 28,_=>exact run_at h1 cyc_r28 hc
 | 29,_=>exact run_at h1 cyc_r29 hc
 | _+30,h=>exact absurd h (by omega)
theorem rph_run {n:Nat} (h1:1≤n) (h2:n≤60):rphB n=true:=by
 have hlt:(n-1) / 20<3:=by omega
 match hc:(n-1) / 20,hlt with
 | 0,_=>exact run_at h1 rph_r0 hc
 | 1,_=>exact run_at h1 rph_r1 hc
 | 2,_=>exact run_at h1 rph_r2 hc
 | _+3,h=>exact absurd h (by omega)
theorem rdv_run {n:Nat} (h1:1≤n) (h2:n≤60):rdvB n=true:=by
 have hlt:(n-1) / 20<3:=by omega
 match hc:(n-1) / 20,hlt with
 | 0,_=>exact run_at h1 rdv_r0 hc
 | 1,_=>exact run_at h1 rdv_r1 hc
 | 2,_=>exact run_at h1 rdv_r2 hc
 | _+3,h=>exact absurd h (by omega)
theorem cyc_ok {n:Nat} (h1:1≤n) (h2:n≤60):FnOK Tryz.prog false 20 [.c (.int .i64 n)] (.t2 (.c (nl (cy n).length fun i=>(cy n).getD i 0)) (.c (.int .i64 0))):=runK_ok (cyc_run h1 h2)
theorem rph_ok {n:Nat} (h1:1≤n) (h2:n≤60):FnOK Tryz.prog false 24 [.c (.int .i64 n)] (.c (.int .i64 (ph n:Nat))):=runK_ok (rph_run h1 h2)
theorem rdv_ok {n:Nat} (h1:1≤n) (h2:n≤60):FnOK Tryz.prog false 13 [.c (.int .i64 (ph n:Nat))] (.c (.row 1 (dvl (ph n)).length fun i _ => .int .i64 ((dvl (ph n)).getD i 0:Nat))):=runK_ok (rdv_run h1 h2)
theorem awake15_run:(pureX orcP (runY ER orcP dvX okF dvI 1000 40) 19 []).map (fun X=>sameV X (.c (.bool true)))=some true:=by kernel_rfl
theorem awake15:FnOK Tryz.prog false 19 [] (.c (.bool true)):=runY_same orcP_ok (inl:=dvI) awake15_run
end Spl
end Go.Proofs.YtibaocbpeaejkaaGreat
/- The law CyclotomicSplits: the walk. -/
namespace Go.Proofs.YtibaocbpeaejkaaGreat
open Go.RowKit
namespace Spl
set_option maxHeartbeats 4000000 in
theorem rinv_one {c:Int}:FnOK Tryz.prog false 57 [.c (.int .i64 c),.c (.int .i64 1)] (.t2 (.c (.int .i64 0)) (.c (.int .i64 0))):=by
 have k1:=Fp.refMod_ok (a:=c) (p:=1) (by decide) (by decide)
 rw[Int.emod_one]at k1
 have k2:=Fp.refMod_ok (a:=0) (p:=1) (by decide) (by decide)
 refine fn_ok (E:=E0) E0_ok Tryz.func57 rfl mixed (by kernel_rfl) (by kernel_rfl) ?_
 conv=>whnf
 refine⟨_,Fp.refInRange_ok (by decide) (by decide),?_⟩
 conv=>whnf
 refine⟨_,k1,?_⟩
 conv=>whnf
 refine loop_unroll 3 ?_
 conv=>whnf
 refine⟨by decide,Fp.i64 (by decide) (by decide),?_⟩
 conv=>whnf
 refine⟨Fp.i64 (by decide) (by decide),?_⟩
 conv=>whnf
 refine⟨Fp.i64 (by decide) (by decide),?_⟩
 conv=>whnf
 refine⟨Fp.i64 (by decide) (by decide),?_⟩
 conv=>whnf
 refine⟨Fp.i64 (by decide) (by decide),?_⟩
 conv=>whnf
 refine⟨_,k2,?_⟩
 conv=>whnf
 exact⟨rfl,Sub.refl _⟩
theorem order_all {p:Int} {n k:Nat} (hp:2≤p) (h1:1≤n) (h2:n≤60) (hg:Nat.gcd p.toNat n=1) (hm:1≤ph n) (hk:k∣ph n) (hd:∀ d,k∣d↔p.toNat^d%n=1%n):FnOK Tryz.prog false 21 [.c (.int .i64 p),.c (.int .i64 (n:Nat))] (.t2 (.c (.int .i64 (k:Nat))) (.c (.int .i64 0))):=by
 have e1:(p%(n:Int))=((p.toNat%n:Nat):Int):=by
  rw[Int.natCast_emod,Int.toNat_of_nonneg (by omega)]
 have e2:∀ d,(p%(n:Int)).toNat^d%n=p.toNat^d%n:=fun d=>by
  rw[e1,Int.toNat_natCast,← Nat.pow_mod]
 obtain⟨j,j1,j2,j3⟩:=dvl_find hm hk
 have hl:=dvl_len (ph n)
 have hph:ph n≤60:=by
  have:=(mon h1 h2).2.2.1
  show(cy n).length-1≤60
  omega
 obtain⟨u,hu⟩:∃ u,FnOK Tryz.prog false 57 [.c (.int .i64 p),.c (.int .i64 (n:Nat))] (.t2 (.c (.int .i64 u)) (.c (.int .i64 0))):=by
  rcases Nat.lt_or_ge 1 n with h | h
  ·have h3:0<p.toNat%n:=Nat.pos_of_ne_zero fun e=>by
    have:=Nat.gcd_eq_right (Nat.dvd_of_mod_eq_zero e)
    omega
   refine⟨_,rinv_ok (by omega) (by omega) (by omega) ?_⟩
   rw[e1]
   show Nat.gcd (p.toNat%n) n=1
   rw[← hg,Nat.gcd_comm p.toNat n]
   exact(Nat.gcd_rec n p.toNat).symm
  ·obtain rfl:n=1:=by omega
   exact⟨_,rinv_one⟩
 have:=order_ok (p:=p) (u:=u) (n:=n) (ph:=ph n) (j:=j) (d:=fun i=>(dvl (ph n)).getD i 0) h1 (by omega) hu (rph_ok h1 h2) (rdv_ok h1 h2) (by omega) (fun i hi=>by
  have:=(dvl_mem.1 (dvl_getD hi).2).1
  rw[(dvl_getD hi).1]
  omega) j1 (by rw[e2,← hd,j2];exact Nat.dvd_refl k) (fun i hi=>by rw[e2];exact fun e=>j3 i hi ((hd _).2 e))
 rwa [j2]at this
set_option maxHeartbeats 8000000 in
theorem splits_out {n p:Int} (haw:FnOK Tryz.prog true 19 [] (.c (.bool true))) (h:n<1∨60<n∨¬ Fp.md p∨Int.tmod n p=0):FnOK Tryz.prog true 4 [.c (.int .i64 n),.c (.int .i64 p)] (.c (.bool true)):=by
 have k1:=(Fp.refModulus_ok (p:=p)).weak (r:=true)
 by_cases h1:n<1
 ·refine fn_ok (E:=E1) E1_ok Tryz.func4 rfl mixed (by kernel_rfl) (by kernel_rfl) ?_
  conv=>whnf
  refine⟨_,haw,?_⟩
  conv=>whnf
  refine bneg (show gw false (decide (n<1))=false by rw[decide_eq_true h1];rfl) ?_
  conv=>whnf
  exact⟨rfl,Sub.refl _⟩
 by_cases h2:60<n
 ·refine fn_ok (E:=E1) E1_ok Tryz.func4 rfl mixed (by kernel_rfl) (by kernel_rfl) ?_
  conv=>whnf
  refine⟨_,haw,?_⟩
  conv=>whnf
  refine bpos (show gw false (decide (n<1))=true by rw[decide_eq_false h1];rfl) ?_
  conv=>whnf
  refine bneg (show gw false (decide (60<n))=false by rw[decide_eq_true h2];rfl) ?_
  conv=>whnf
  exact⟨rfl,Sub.refl _⟩
 by_cases h3:Fp.md p
 ·have h4:Int.tmod n p=0:=by
   rcases h with e | e | e | e
   ·exact absurd e h1
   ·exact absurd e h2
   ·exact absurd h3 e
   ·exact e
  have hm1:=h3.1
  have k1:FnOK Tryz.prog true 8 [.c (.int .i64 p)] (.c (.bool true)):=by rwa [@decide_eq_true _ (Classical.propDecidable _) h3]at k1
  refine fn_ok (E:=E1) E1_ok Tryz.func4 rfl mixed (by kernel_rfl) (by kernel_rfl) ?_
  conv=>whnf
  refine⟨_,haw,?_⟩
  conv=>whnf
  refine bpos (show gw false (decide (n<1))=true by rw[decide_eq_false h1];rfl) ?_
  conv=>whnf
  refine bpos (show gw false (decide (60<n))=true by rw[decide_eq_false h2];rfl) ?_
  conv=>whnf
  refine⟨_,k1,?_⟩
  conv=>whnf
  refine⟨by omega,?_⟩
  conv=>whnf
  refine bpos (show decide (Int.tmod n p=0)=true from decide_eq_true h4) ?_
  conv=>whnf
  exact⟨rfl,Sub.refl _⟩
 ·have k1:FnOK Tryz.prog true 8 [.c (.int .i64 p)] (.c (.bool false)):=by rwa [@decide_eq_false _ (Classical.propDecidable _) h3]at k1
  refine fn_ok (E:=E1) E1_ok Tryz.func4 rfl mixed (by kernel_rfl) (by kernel_rfl) ?_
  conv=>whnf
  refine⟨_,haw,?_⟩
  conv=>whnf
  refine bpos (show gw false (decide (n<1))=true by rw[decide_eq_false h1];rfl) ?_
  conv=>whnf
  refine bpos (show gw false (decide (60<n))=true by rw[decide_eq_false h2];rfl) ?_
  conv=>whnf
  refine⟨_,k1,?_⟩
  conv=>whnf
  exact⟨rfl,Sub.refl _⟩
section
variable {p:Int} [hp:Prm p]
theorem cy_nfL (hm:Fp.md p) {n:Nat} (h1:1≤n) (h2:n≤60):Fp.nfL p ((cy n).length,fun i=>(cy n).getD i 0%p)=ofP (po p (cy n)):=by
 have hl:=(mon h1 h2).2.2.1
 refine ofP_eq (Fp.NL.nfL hm (show(cy n).length≤4096 by omega)) fun i=>?_
 rw[po_f]
 show Zp.red (if i<(cy n).length then(cy n).getD i 0%p%p else 0)=_
 split
 ·refine Zp.red_eq.2 ?_
  rw[Int.emod_emod,Int.emod_emod]
 ·rw[List.getD_eq_getElem?_getD,List.getElem?_eq_none (by omega)]
  rfl
theorem red_ok (hm:Fp.md p) {n:Nat} (h1:1≤n) (h2:n≤60):FnOK Tryz.prog false 23 [.c (nl (cy n).length fun i=>(cy n).getD i 0),.c (.int .i64 p)] (pl (po p (cy n))):=by
 obtain⟨_,_,hl,hc⟩:=mon h1 h2
 have hp1:=hm.1
 have:=reduce_ok (p:=p) (n:=(cy n).length) (v:=fun i=>(cy n).getD i 0) (by omega) hm.2.1 (by omega) fun i hi=>by
  have h:=hc _ (show(cy n).getD i 0∈cy n by
   rw[List.getD_eq_getElem?_getD,List.getElem?_eq_getElem hi]
   exact List.getElem_mem hi)
  rcases h with h | h | h
  ·rw[h];decide
  ·rw[h];decide
  ·rw[h];decide
 have e:=cy_nfL hm h1 h2
 show FnOK _ _ _ _ (Fp.cl (ofP (po p (cy n))))
 rw[← e]
 exact this
set_option maxHeartbeats 16000000 in
theorem splits_in (hm:Fp.md p) {n:Nat} (haw:FnOK Tryz.prog true 19 [] (.c (.bool true))) (h1:1≤n) (h2:n≤60) (h3:Int.tmod n p≠0):FnOK Tryz.prog true 4 [.c (.int .i64 n),.c (.int .i64 p)] (.c (.bool true)):=by
 have hm1:=hm.1
 have hm2:=hm.2.1
 have hn:n%p.toNat≠0:=fun e=>h3 (by
  rw[Int.tmod_eq_emod_of_nonneg (by omega),← Int.toNat_of_nonneg (show 0≤p by omega),← Int.natCast_emod,e]
  rfl)
 have k1:FnOK Tryz.prog true 8 [.c (.int .i64 p)] (.c (.bool true)):=by
  have k1:=(Fp.refModulus_ok (p:=p)).weak (r:=true)
  rwa [@decide_eq_true _ (Classical.propDecidable _) hm]at k1
 have kc:=(cyc_ok h1 h2).weak (r:=true)
 have kr:=(red_ok hm h1 h2).weak (r:=true)
 have kh:=(rph_ok h1 h2).weak (r:=true)
 have hlen:=(po_len (p:=p) h1 h2).1
 have hl:=(mon h1 h2).2
 have f0:po p (cy n)≠0:=Pol.ne_of_len (by omega)
 obtain⟨L,sL,nL,kL⟩:=Factor_P hm (x:=ofP (po p (cy n))) (by show(po p (cy n)).len≤4096;omega) (Fp.nfL_id (ofP_NL _ (by omega))) f0 (by omega)
 obtain⟨k,a1,a2,a3,a4,a5⟩:=split_fac h1 h2 hn sL.f
 have ko:=(order_all (p:=p) (n:=n) (k:=k) hm1 h1 h2 (cop_of hn) (by show 1≤(cy n).length-1;omega) a3 a2).weak (r:=true)
 have hk:k≤60:=by have:=Nat.le_of_dvd (by omega) a3;omega
 have a5:L.length*k=ph n:=a5
 have hph:ph n≤60:=by show(cy n).length-1≤60;omega
 have q1:((L.length*k:Nat):Int)=(L.length:Int)*(k:Int):=Int.natCast_mul _ _
 have b1 : -9223372036854775808≤(L.length:Int)*(k:Int):=by omega
 have b2:(L.length:Int)*(k:Int)<9223372036854775808:=by omega
 have kL:FnOK Tryz.prog true 22 [.c (.int .i64 p),Fp.cl (ofP (po p (cy n)))] (.t3 (.c (.int .i64 (po p (cy n)).lead.v)) (.c (.row 2 L.length (fcs L))) (.c (.int .i64 0))):=kL
 have kr:FnOK Tryz.prog true 23 [.c (nl (cy n).length fun i=>(cy n).getD i 0),.c (.int .i64 p)] (Fp.cl (ofP (po p (cy n)))):=kr
 generalize ofP (po p (cy n))=D at kL kr
 generalize (fun i=>(cy n).getD i 0)=cf at kc kr
 generalize (po p (cy n)).lead.v=ld at kL
 generalize ph n=phn at *
 generalize (cy n).length=m at *
 refine fn_ok (E:=E1) E1_ok Tryz.func4 rfl mixed (by kernel_rfl) (by kernel_rfl) ?_
 conv=>whnf
 refine⟨_,haw,?_⟩
 conv=>whnf
 refine bpos (show gw false (decide ((n:Int)<1))=true by rw[decide_eq_false (by omega)];rfl) ?_
 conv=>whnf
 refine bpos (show gw false (decide (60<(n:Int)))=true by rw[decide_eq_false (by omega)];rfl) ?_
 conv=>whnf
 refine⟨_,k1,?_⟩
 conv=>whnf
 refine⟨by omega,?_⟩
 conv=>whnf
 refine bneg (show decide (Int.tmod n p=0)=false from decide_eq_false h3) ?_
 conv=>whnf
 refine⟨_,kc,?_⟩
 conv=>whnf
 refine⟨_,ko,?_⟩
 conv=>whnf
 refine⟨_,kr,?_⟩
 conv=>whnf
 refine⟨_,kL,?_⟩
 conv=>whnf
 refine⟨Fp.i64 b1 b2,?_⟩
 conv=>whnf
 refine⟨_,kh,?_⟩
 conv=>whnf
 refine bneg (show(!decide ((L.length:Int)*(k:Int)=(phn:Nat)))=false by rw[decide_eq_true (by omega)];rfl) ?_
 conv=>whnf
 refine loop_ints (fun i:Nat=>gst [(7,.c (.int .i64 (k:Nat))),(10,.c (.row 2 L.length (fcs L))),(12,.c (.int .i64 i))] []) (fun i=>L.length-i) (fun i=>i≤L.length) 0 rfl ?_ (Nat.zero_le _) fun i hi=>?_
 ·exact Weak.gen [] rfl trivial ⟨⟨_,rfl,rfl⟩,.inl ⟨_,_,rfl,rfl,fun _ _ _ _=>rfl⟩,⟨_,rfl,rfl⟩,trivial⟩
 have a4:=a4 i
 conv=>whnf
 refine bcase (fun(h:decide ((i:Int)<(L.length:Int))=true)=>?_) fun(h:decide ((i:Int)<(L.length:Int))=false)=>?_
 ·have h:=of_decide_eq_true h
  obtain⟨c1,c2⟩:=a4 (by omega)
  have hpl:((ofP (L.getD i (0,0)).1).1:Int)=(k:Int)+1:=by
   show((L.getD i (0,0)).1.len:Int)=_
   omega
  conv=>whnf
  refine⟨by omega,by show(i:Int)<(L.length:Int);omega,?_⟩
  conv=>whnf
  refine⟨Fp.i64 (by omega) (by omega),?_⟩
  conv=>whnf
  refine bpos (show gw false (!decide (((ofP (L.getD i (0,0)).1).1:Int)=(k:Int)+1))=true by rw[decide_eq_true hpl];rfl) ?_
  conv=>whnf
  refine⟨by omega,by show(i:Int)<(L.length:Int);omega,?_⟩
  conv=>whnf
  refine bneg (show(!decide (((L.getD i (0,0)).2:Int)=1))=false by rw[decide_eq_true (by omega)];rfl) ?_
  conv=>whnf
  refine⟨Fp.i64 (by omega) (by omega),?_⟩
  conv=>whnf
  exact⟨i+1,by omega,Weak.gen [] rfl trivial ⟨⟨_,rfl,rfl⟩,.inl ⟨_,_,rfl,rfl,fun _ _ _ _=>rfl⟩,⟨_,rfl,rfl⟩,trivial⟩,by omega⟩
 ·have h:=of_decide_eq_false h
  conv=>whnf
  exact⟨rfl,Sub.refl _⟩
end
theorem splits_ok {n p:Int}:FnOK Tryz.prog true 4 [.c (.int .i64 n),.c (.int .i64 p)] (.c (.bool true)):=by
 by_cases h:n<1∨60<n∨¬ Fp.md p∨Int.tmod n p=0
 ·exact splits_out awake15.weak h
 ·obtain⟨m,rfl⟩:∃ m:Nat,n=m:=⟨n.toNat,by
   have:¬ n<1:=fun e=>h (.inl e)
   omega⟩
  have h3:Fp.md p:=Classical.byContradiction fun e=>h (.inr (.inr (.inl e)))
  haveI:=md_prm h3
  exact splits_in h3 awake15.weak (Nat.le_of_not_lt fun e=>h (.inl (by omega))) (Nat.le_of_not_lt fun e=>h (.inr (.inl (by omega)))) fun e=>h (.inr (.inr (.inr e)))
end Spl
end Go.Proofs.YtibaocbpeaejkaaGreat
/- Integers as arguments, opened. -/
namespace Go.Proofs.YtibaocbpeaejkaaGreat
open Go.ChangeShapes Go.WideShapes Go.ChangeAt Go.RowKit
set_option maxRecDepth 100000
theorem open_i64 {H:Type} {enc:TypeId × Value->H} {w:World} {sp:Nat->Bool} {held:Bool} {r:Reach} {b0 t:Nat} {v:Value} {d:DataW H} {ps:List MemPlace} (ht:Tryz.prog.underlying t=some (.int .i64)) (hval:Value.okWide Tryz.prog w r b0 t v) (hd:DataW.Trod enc Tryz.prog w 0 sp held t v d ps):∃ n:Int,VRel (fun _=>False) w [] (.c (.int .i64 n)) v:=by
 obtain⟨fuel,hf⟩:=hd
 obtain⟨n,e,_⟩:=cell_int ht hf
 have hc:v.cells.toList=[v]:=by
  cases v with
  | agg cs=>simp[Value.okWide,ht,Cell.okWide,Cell.ok]at hval
  | _=>rfl
 rw[hc]at e
 cases e
 exact⟨n,rfl⟩
end Go.Proofs.YtibaocbpeaejkaaGreat
/- The law CyclotomicSplits: its call, under what its arguments read as. -/
namespace Go.Proofs.YtibaocbpeaejkaaGreat
open Go.ChangeShapes Go.WideShapes Go.ChangeAt Go.RowKit
set_option maxRecDepth 100000 in
theorem walk_CyclotomicSplits {H : Type} {enc : TypeId × Value → H} {W : World} {base : Nat} {v0 v1 : Value} {d0 d1 : DataW H} {p0 p1 : List MemPlace}
  (u0:Value.okWide Tryz.prog W .any base 3 v0) (h0:DataW.Trod enc Tryz.prog W 0 (fun _=>true) true 3 v0 d0 p0)
  (u1:Value.okWide Tryz.prog W .any base 3 v1) (h1:DataW.Trod enc Tryz.prog W 0 (fun _=>true) true 3 v1 d1 p1) :
  Calls Tryz.prog 4 #[v0,v1] W fun e w'=>e = .returned (.bool true)/\Below W.heap.size W w':=by
 obtain⟨n,g0⟩:=open_i64 Tryz.underlying3 u0 h0
 obtain⟨p,g1⟩:=open_i64 Tryz.underlying3 u1 h1
 exact law_call (vs:=[v0,v1]) (Spl.splits_ok (n:=n) (p:=p)) ⟨g0,g1,trivial⟩
end Go.Proofs.YtibaocbpeaejkaaGreat
