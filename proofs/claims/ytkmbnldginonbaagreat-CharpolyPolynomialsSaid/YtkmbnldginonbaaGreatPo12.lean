/- Runs of functions of the program: what they tell of calls. -/
import Derived.Test.YtkmbnldginonbaaGreatPo11
import Derived.Test.YtkmbnldginonbaaGreatProg
import Derived.KernelRfl
import Derived.WalkSpells
set_option maxHeartbeats 1000000
namespace Go.Proofs.YtkmbnldginonbaaGreat
open Go.RowKit
def mkE (P:Program):Env:=⟨P,false,yf P,0⟩
theorem mkE_ok (P:Program):EnvOK (mkE P):=⟨fun _ _ h=>h⟩
theorem mkE_P (P:Program):(mkE P).P=P:=rfl
noncomputable def ER:Env:=mkE Tryz.prog
theorem ER_P:ER.P=Tryz.prog:=mkE_P _
theorem ER_r:ER.r=false:=rfl
theorem ER_ok:EnvOK ER:=mkE_ok _
theorem mixedR:Tryz.prog.follows .mixedOrders=true:=by kernel_rfl
noncomputable def okF (f:FuncId):Bool:=match Tryz.prog.funcs[f]? with
 | some fn=>match fn.body with
  | some c => x9 fn.ntmps c && !(fn.name == "runtime.NumGoroutine")
  | none=>false
 | none=>false
theorem okF_ok (f:FuncId) (fn:Func) (c:Code) (h:okF f=true) (hf:Tryz.prog.funcs[f]? = some fn) (hc:fn.body=some c):x9 fn.ntmps c=true/\x8 Tryz.prog f=true:=by
 unfold okF at h;rw[hf]at h;simp only[hc,Bool.and_eq_true]at h;refine⟨h.1,?_⟩;unfold x8;rw[hf];simp only[hc,Option.isSome_some,Bool.true_and];exact h.2
theorem run_call {orc:FuncId->List V->Option V} (ho:∀ f l X,orc f l=some X->FnOK Tryz.prog false f l X) {inl:FuncId->Bool} {lf d:Nat} {f:FuncId} {l:List V} {X:V} (h:pureX orc (runX ER orc okF inl lf d) f l=some X):FnOK Tryz.prog false f l X:=by
 have h1:=runX_ok (E:=ER) ER_ok (by rw[ER_P];exact mixedR) (by rw[ER_P,ER_r];exact ho) (by rw[ER_P];exact okF_ok) (inl:=inl) (lf:=lf) d;rw[ER_P,ER_r]at h1;exact pureX_ok ho h1 f l X h
/-! Copies of slices of no elements -/
def ClonePost (w:World) (e:Ending) (w':World):Prop:=∃ A' c',e = .returned (.slice A' 0 c')/\Below w.heap.size w w'
theorem clone_fn {f:FuncId} (hb:x8 Tryz.prog f=true) (h:∀(A:Option Addr) (c:Nat) (w:World),Calls Tryz.prog f #[.slice A 0 c] w (ClonePost w)) {r:Bool} {sz:Nat} {g g':Nat->Nat->Cell}:FnOK Tryz.prog r f [.c (.row sz 0 g)] (.c (.row sz 0 g')):=by
 refine⟨hb,fun D w vs _ _ hargs=>?_⟩;match vs,hargs with
 | [v],hargs =>
  obtain⟨A,c,rfl,_,_⟩:=hargs.1;refine(h A c w).mono ?_;rintro e w' ⟨A',c',rfl,hb⟩;exact⟨_,rfl,⟨A',c',rfl,Nat.zero_le _,fun h=>absurd h (Nat.lt_irrefl 0)⟩,hb⟩
 | [],hargs=>exact hargs.elim
 | _ :: _ :: _,hargs=>exact hargs.2.elim
theorem clone_nil {f:FuncId} {r:Bool} {sz:Nat} {g g':Nat->Nat->Cell} (h:FnOK Tryz.prog r f [.c (.row sz 0 g)] (.c (.row sz 0 g'))):FnOK Tryz.prog r f [.c .nil] (.c (.row sz 0 g')):=by
 refine⟨h.1,fun D w vs h1 h2 hargs=>h.2 D w vs h1 h2 ?_⟩;match vs,hargs with
 | [v],hargs =>
  have hv:v = .slice none 0 0:=hargs.1;exact⟨⟨none,0,hv,Nat.le_refl _,fun h=>absurd h (Nat.lt_irrefl 0)⟩,trivial⟩
 | [],hargs=>exact hargs.elim
 | _ :: _ :: _,hargs=>exact hargs.2.elim
theorem infoU:(Tryz.prog.info? 119).map (fun i=>(i.zero,i.size,i.bytes))=some (some (.int .u32 0),1,4):=by kernel_rfl
theorem cloneU (A:Option Addr) (c:Nat) (w:World):Calls Tryz.prog 152 #[.slice A 0 c] w (ClonePost w):=by
 obtain⟨i0,hi,hz0,hz1,hz2⟩:=info_parts infoU;have heq:=fun(W:World)=>Lib.run_eql_slice_nil (P:=Tryz.prog) W 34 119 A 0 c 0 0 Tryz.underlying34;rcases A with _ | ad
 ·go_enter Tryz.func152,Tryz.ntmps152
  go_wp2
  go_ret
  exact⟨none,0,rfl,Below.refl _ _⟩
 ·go_enter Tryz.func152,Tryz.ntmps152
  go_wp2_with (at_builtin;refine wpList_append_own _ rfl _ _ 34 rfl w.heap.size 119 i0 _ 1 4 Tryz.underlying34 hi hz0 hz1 hz2 rfl (by decide) _ 0 [] rfl (World.ownsRow_lit w #[] 0 (Nat.le_refl _) (by decide) rfl) ad 0 c [] rfl rfl (fun j u h=>by simp at h) (fun u h=>by simp at h) (by unfold maxLen;omega) (by omega) (by simp) ?_;intro v' w1 hown hgr hnil)
  go_ret
  obtain⟨_,h⟩:=hown;rcases h with⟨rfl,_⟩ | ⟨g,cap,cur,rfl,_⟩
  ·exact⟨none,0,rfl,((Below.refl w.heap.size w).alloc (Nat.le_refl _) _).grown hgr (by simp) (fun k hk=>by have h2:some w.heap.size=some k:=hk;injection h2 with h2;omega)⟩
  ·exact⟨_,cap,rfl,((Below.refl w.heap.size w).alloc (Nat.le_refl _) _).grown hgr (by simp) (fun k hk=>by have h2:some w.heap.size=some k:=hk;injection h2 with h2;omega)⟩
theorem infoQ:(Tryz.prog.info? 38).map (fun i=>(i.zero,i.size,i.bytes))=some (some (.agg #[.bool false,.slice none 0 0,.bool false,.slice none 0 0]),4,64):=by kernel_rfl
theorem cloneQ (A:Option Addr) (c:Nat) (w:World):Calls Tryz.prog 127 #[.slice A 0 c] w (ClonePost w):=by
 obtain⟨i0,hi,hz0,hz1,hz2⟩:=info_parts infoQ;have heq:=fun(W:World)=>Lib.run_eql_slice_nil (P:=Tryz.prog) W 22 38 A 0 c 0 0 Tryz.underlying22;rcases A with _ | ad
 ·go_enter Tryz.func127,Tryz.ntmps127
  go_wp2
  go_ret
  exact⟨none,0,rfl,Below.refl _ _⟩
 ·go_enter Tryz.func127,Tryz.ntmps127
  go_wp2_with (at_builtin;refine wpList_append_own _ rfl _ _ 22 rfl w.heap.size 38 i0 _ 4 64 Tryz.underlying22 hi hz0 hz1 hz2 rfl (by decide) _ 0 [] rfl (World.ownsRow_lit w #[] 0 (Nat.le_refl _) (by decide) rfl) ad 0 c [] rfl rfl (fun j u h=>by simp at h) (fun u h=>by simp at h) (by unfold maxLen;omega) (by omega) (by simp) ?_;intro v' w1 hown hgr hnil)
  go_ret
  obtain⟨_,h⟩:=hown;rcases h with⟨rfl,_⟩ | ⟨g,cap,cur,rfl,_⟩
  ·exact⟨none,0,rfl,((Below.refl w.heap.size w).alloc (Nat.le_refl _) _).grown hgr (by simp) (fun k hk=>by have h2:some w.heap.size=some k:=hk;injection h2 with h2;omega)⟩
  ·exact⟨_,cap,rfl,((Below.refl w.heap.size w).alloc (Nat.le_refl _) _).grown hgr (by simp) (fun k hk=>by have h2:some w.heap.size=some k:=hk;injection h2 with h2;omega)⟩
def cloneIds:List FuncId:=[152,127]
def orcC (f:FuncId) (l:List V):Option V:=match cloneIds.contains f,l with
 | true,[.c (.row sz 0 _)]=>some (.c (.row sz 0 fun _ _ => .any))
 | true,[.c .nil]=>some (.c (.row 1 0 fun _ _ => .any))
 | _,_=>none
theorem cloneIds_ok {r:Bool} {sz:Nat} {g g':Nat->Nat->Cell}:∀ f∈cloneIds,FnOK Tryz.prog r f [.c (.row sz 0 g)] (.c (.row sz 0 g')):=by
 simp only[cloneIds,List.forall_mem_cons,List.not_mem_nil,false_imp_iff,implies_true,and_true];exact⟨clone_fn (by kernel_rfl) cloneU,clone_fn (by kernel_rfl) cloneQ⟩
theorem orcC_ok {r:Bool} (f:FuncId) (l:List V) (X:V) (h:orcC f l=some X):FnOK Tryz.prog r f l X:=by
 unfold orcC at h;cases hf:cloneIds.contains f with
 | false=>rw[hf]at h;cases h
 | true =>
  rw[hf]at h;have hm:f∈cloneIds:=by simpa using hf
  split at h
  ·cases h;exact cloneIds_ok f hm
  ·cases h;exact clone_nil (cloneIds_ok (g:=fun _ _ => .any) f hm)
  ·cases h
end Go.Proofs.YtkmbnldginonbaaGreat
