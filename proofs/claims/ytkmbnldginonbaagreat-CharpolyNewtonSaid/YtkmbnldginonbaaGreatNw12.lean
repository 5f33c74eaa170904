/- Rows and columns exchanged. -/
import Derived.Test.YtkmbnldginonbaaGreatNw11
import Derived.Test.YtkmbnldginonbaaGreatNw10
namespace Go.Proofs.YtkmbnldginonbaaGreat
open Go.RowKit
namespace Mx
def xr (M:Nat->Nat->Rat) (i j k b a:Nat):Rat:=if sw i j b<k then M b (sw i j a)else M b a
theorem xr_zero (M:Nat->Nat->Rat) (i j b a:Nat):xr M i j 0 b a=M b a:=if_neg (by omega)
theorem xr_step (M:Nat->Nat->Rat) {i j k b:Nat} (hij:i≠j) (hb:sw i j b=k) (a:Nat):(if a=j then xr M i j k b i else if a=i then xr M i j k b j else xr M i j k b a)=xr M i j (k+1) b a:=by
 have e:∀ x,xr M i j k b x=M b x:=fun x=>if_neg (by omega)
 have e3:xr M i j (k+1) b a=M b (if a=i then j else if a=j then i else a):=if_pos (by omega)
 rw[e,e,e,e3]
 by_cases h1:a=i
 ·rw[if_neg (show ¬ a=j by omega),if_pos h1,if_pos h1]
 ·rw[if_neg h1,if_neg h1]
  by_cases h2:a=j
  ·rw[if_pos h2,if_pos h2]
  ·rw[if_neg h2,if_neg h2]
theorem xr_keep (M:Nat->Nat->Rat) {i j k b:Nat} (hb:sw i j b≠k) (a:Nat):xr M i j (k+1) b a=xr M i j k b a:=by
 unfold xr
 by_cases h:sw i j b<k
 ·rw[if_pos h,if_pos (by omega)]
 ·rw[if_neg h,if_neg (by omega)]
theorem xr_all (M:Nat->Nat->Rat) {i j n a:Nat} (ha:a<n) (x:Nat):xch (sw i j) M a x=xr M i j n (sw i j a) x:=by
 show _=if sw i j (sw i j a)<n then M (sw i j a) (sw i j x)else _
 rw[sw_sw,if_pos ha]
 rfl
set_option maxHeartbeats 8000000 in
theorem exch_3_2_1 (M:Nat->Nat->Rat):FnT Tryz.prog true 92 1 ([gG 3 idn,gq 3 (M 0),gq 3 (M 1),gq 3 (M 2)].map gb) [.c (.gs 0 0),.c (.int .i64 2),.c (.int .i64 1)] (.c .any) ([gG 3 idn,gq 3 (xch (sw 2 1) M 0),gq 3 (xch (sw 2 1) M 1),gq 3 (xch (sw 2 1) M 2)].map gb):=by
 refine fnt_okS (E:=E1m) E1m_ok Tryz.func92 rfl (by kernel_rfl) ?_
 refine sq ?_
 conv=>whnf
 repeat (refine⟨by decide,by decide,?_⟩;conv=>whnf)
 refine⟨gst [(0,.c (.gs 0 0)),(1,.c (.int .i64 2)),(2,.c (.int .i64 1))] [gG 3 (sw 2 1),gq 3 (M 0),gq 3 (M 1),gq 3 (M 2)],Weak.genT [some 0,some 1,some 2,some 3] rfl rfl ⟨_,rfl,rfl,by decide⟩ ⟨⟨_,rfl,rfl,rfl,rfl,rfl,cells3 ⟨_,rfl,rfl,rfl⟩ ⟨_,rfl,rfl,rfl⟩ ⟨_,rfl,rfl,rfl⟩⟩,rs rfl,rs rfl,rs rfl,trivial⟩ ⟨⟨_,rfl,rfl,rfl⟩,⟨_,rfl,rfl⟩,⟨_,rfl,rfl⟩,trivial⟩,?_⟩
 refine sq ?_
 conv=>whnf
 refine⟨(fun k:Nat=>gst [(1,.c (.int .i64 2)),(2,.c (.int .i64 1)),(22,.c (.gs 0 0)),(23,.c (.int .i64 3)),(24,.c (.int .i64 (k:Nat)))] [gG 3 (sw 2 1),gq 3 (xr M 2 1 k 0),gq 3 (xr M 2 1 k 1),gq 3 (xr M 2 1 k 2)]) 0,Weak.genT [some 0,some 1,some 2,some 3] rfl rfl ⟨_,rfl,rfl,by decide⟩ ⟨⟨_,rfl,rfl,rfl,rfl,rfl,cells3 ⟨_,rfl,rfl,rfl⟩ ⟨_,rfl,rfl,rfl⟩ ⟨_,rfl,rfl,rfl⟩⟩,rk rfl fun x _=>xr_zero M 2 1 0 x,rk rfl fun x _=>xr_zero M 2 1 1 x,rk rfl fun x _=>xr_zero M 2 1 2 x,trivial⟩ ⟨⟨_,rfl,rfl⟩,⟨_,rfl,rfl⟩,⟨_,rfl,rfl,rfl⟩,⟨_,rfl,rfl⟩,⟨_,rfl,rfl⟩,trivial⟩,?_⟩
 refine swp_block (swp_loop (fun k:Nat=>gst [(1,.c (.int .i64 2)),(2,.c (.int .i64 1)),(22,.c (.gs 0 0)),(23,.c (.int .i64 3)),(24,.c (.int .i64 (k:Nat)))] [gG 3 (sw 2 1),gq 3 (xr M 2 1 k 0),gq 3 (xr M 2 1 k 1),gq 3 (xr M 2 1 k 2)]) (fun k=>3-k) (fun k=>k≤3) 0 (Weak.refl _) (by decide) fun k hk=>?_)
 rcases(show k=0∨k=1∨k=2∨k=3 by omega)with rfl | rfl | rfl | rfl
 ·refine so ?_
  conv=>whnf
  repeat (refine⟨by first | decide | exact ixl rfl,?_⟩;conv=>whnf)
  refine⟨i64_range (by decide) (by decide),?_⟩
  conv=>whnf
  exact⟨1,by decide,Weak.genT [some 0,some 1,some 2,some 3] rfl rfl ⟨_,rfl,rfl,by decide⟩ ⟨⟨_,rfl,rfl,rfl,rfl,rfl,cells3 ⟨_,rfl,rfl,rfl⟩ ⟨_,rfl,rfl,rfl⟩ ⟨_,rfl,rfl,rfl⟩⟩,⟨_,rfl,rfl,rfl,rfl,rfl,fun x y _ hy=>row_upd2 hy (xr_step M (by decide) rfl x)⟩,rk rfl fun x _=>xr_keep M (by decide) x,rk rfl fun x _=>xr_keep M (by decide) x,trivial⟩ ⟨⟨_,rfl,rfl⟩,⟨_,rfl,rfl⟩,⟨_,rfl,rfl,rfl⟩,⟨_,rfl,rfl⟩,⟨_,rfl,rfl⟩,trivial⟩,by decide⟩
 ·refine so ?_
  conv=>whnf
  repeat (refine⟨by first | decide | exact ixl rfl,?_⟩;conv=>whnf)
  refine⟨i64_range (by decide) (by decide),?_⟩
  conv=>whnf
  exact⟨2,by decide,Weak.genT [some 0,some 1,some 2,some 3] rfl rfl ⟨_,rfl,rfl,by decide⟩ ⟨⟨_,rfl,rfl,rfl,rfl,rfl,cells3 ⟨_,rfl,rfl,rfl⟩ ⟨_,rfl,rfl,rfl⟩ ⟨_,rfl,rfl,rfl⟩⟩,rk rfl fun x _=>xr_keep M (by decide) x,rk rfl fun x _=>xr_keep M (by decide) x,⟨_,rfl,rfl,rfl,rfl,rfl,fun x y _ hy=>row_upd2 hy (xr_step M (by decide) rfl x)⟩,trivial⟩ ⟨⟨_,rfl,rfl⟩,⟨_,rfl,rfl⟩,⟨_,rfl,rfl,rfl⟩,⟨_,rfl,rfl⟩,⟨_,rfl,rfl⟩,trivial⟩,by decide⟩
 ·refine so ?_
  conv=>whnf
  repeat (refine⟨by first | decide | exact ixl rfl,?_⟩;conv=>whnf)
  refine⟨i64_range (by decide) (by decide),?_⟩
  conv=>whnf
  exact⟨3,by decide,Weak.genT [some 0,some 1,some 2,some 3] rfl rfl ⟨_,rfl,rfl,by decide⟩ ⟨⟨_,rfl,rfl,rfl,rfl,rfl,cells3 ⟨_,rfl,rfl,rfl⟩ ⟨_,rfl,rfl,rfl⟩ ⟨_,rfl,rfl,rfl⟩⟩,rk rfl fun x _=>xr_keep M (by decide) x,⟨_,rfl,rfl,rfl,rfl,rfl,fun x y _ hy=>row_upd2 hy (xr_step M (by decide) rfl x)⟩,rk rfl fun x _=>xr_keep M (by decide) x,trivial⟩ ⟨⟨_,rfl,rfl⟩,⟨_,rfl,rfl⟩,⟨_,rfl,rfl,rfl⟩,⟨_,rfl,rfl⟩,⟨_,rfl,rfl⟩,trivial⟩,by decide⟩
 ·refine so ?_
  conv=>whnf
  exact Weak.genT (tl:=[(0,.c .any)]) (xs:=[gG 3 idn,gq 3 (xch (sw 2 1) M 0),gq 3 (xch (sw 2 1) M 1),gq 3 (xch (sw 2 1) M 2)]) [some 0,some 1,some 3,some 2] rfl rfl ⟨_,rfl,rfl,by decide⟩ ⟨⟨_,rfl,rfl,rfl,rfl,rfl,cells3 ⟨_,rfl,rfl,rfl⟩ ⟨_,rfl,rfl,rfl⟩ ⟨_,rfl,rfl,rfl⟩⟩,rk rfl fun x _=>xr_all M (by decide) x,rk rfl fun x _=>xr_all M (by decide) x,rk rfl fun x _=>xr_all M (by decide) x,trivial⟩ ⟨⟨rfl,rfl⟩,trivial⟩
set_option maxHeartbeats 8000000 in
theorem exch_4_2_1 (M:Nat->Nat->Rat):FnT Tryz.prog true 92 1 ([gG 4 idn,gq 4 (M 0),gq 4 (M 1),gq 4 (M 2),gq 4 (M 3)].map gb) [.c (.gs 0 0),.c (.int .i64 2),.c (.int .i64 1)] (.c .any) ([gG 4 idn,gq 4 (xch (sw 2 1) M 0),gq 4 (xch (sw 2 1) M 1),gq 4 (xch (sw 2 1) M 2),gq 4 (xch (sw 2 1) M 3)].map gb):=by
 refine fnt_okS (E:=E1m) E1m_ok Tryz.func92 rfl (by kernel_rfl) ?_
 refine sq ?_
 conv=>whnf
 repeat (refine⟨by decide,by decide,?_⟩;conv=>whnf)
 refine⟨gst [(0,.c (.gs 0 0)),(1,.c (.int .i64 2)),(2,.c (.int .i64 1))] [gG 4 (sw 2 1),gq 4 (M 0),gq 4 (M 1),gq 4 (M 2),gq 4 (M 3)],Weak.genT [some 0,some 1,some 2,some 3,some 4] rfl rfl ⟨_,rfl,rfl,by decide⟩ ⟨⟨_,rfl,rfl,rfl,rfl,rfl,cells4 ⟨_,rfl,rfl,rfl⟩ ⟨_,rfl,rfl,rfl⟩ ⟨_,rfl,rfl,rfl⟩ ⟨_,rfl,rfl,rfl⟩⟩,rs rfl,rs rfl,rs rfl,rs rfl,trivial⟩ ⟨⟨_,rfl,rfl,rfl⟩,⟨_,rfl,rfl⟩,⟨_,rfl,rfl⟩,trivial⟩,?_⟩
 refine sq ?_
 conv=>whnf
 refine⟨(fun k:Nat=>gst [(1,.c (.int .i64 2)),(2,.c (.int .i64 1)),(22,.c (.gs 0 0)),(23,.c (.int .i64 4)),(24,.c (.int .i64 (k:Nat)))] [gG 4 (sw 2 1),gq 4 (xr M 2 1 k 0),gq 4 (xr M 2 1 k 1),gq 4 (xr M 2 1 k 2),gq 4 (xr M 2 1 k 3)]) 0,Weak.genT [some 0,some 1,some 2,some 3,some 4] rfl rfl ⟨_,rfl,rfl,by decide⟩ ⟨⟨_,rfl,rfl,rfl,rfl,rfl,cells4 ⟨_,rfl,rfl,rfl⟩ ⟨_,rfl,rfl,rfl⟩ ⟨_,rfl,rfl,rfl⟩ ⟨_,rfl,rfl,rfl⟩⟩,rk rfl fun x _=>xr_zero M 2 1 0 x,rk rfl fun x _=>xr_zero M 2 1 1 x,rk rfl fun x _=>xr_zero M 2 1 2 x,rk rfl fun x _=>xr_zero M 2 1 3 x,trivial⟩ ⟨⟨_,rfl,rfl⟩,⟨_,rfl,rfl⟩,⟨_,rfl,rfl,rfl⟩,⟨_,rfl,rfl⟩,⟨_,rfl,rfl⟩,trivial⟩,?_⟩
 refine swp_block (swp_loop (fun k:Nat=>gst [(1,.c (.int .i64 2)),(2,.c (.int .i64 1)),(22,.c (.gs 0 0)),(23,.c (.int .i64 4)),(24,.c (.int .i64 (k:Nat)))] [gG 4 (sw 2 1),gq 4 (xr M 2 1 k 0),gq 4 (xr M 2 1 k 1),gq 4 (xr M 2 1 k 2),gq 4 (xr M 2 1 k 3)]) (fun k=>4-k) (fun k=>k≤4) 0 (Weak.refl _) (by decide) fun k hk=>?_)
 rcases(show k=0∨k=1∨k=2∨k=3∨k=4 by omega)with rfl | rfl | rfl | rfl | rfl
 ·refine so ?_
  conv=>whnf
  repeat (refine⟨by first | decide | exact ixl rfl,?_⟩;conv=>whnf)
  refine⟨i64_range (by decide) (by decide),?_⟩
  conv=>whnf
  exact⟨1,by decide,Weak.genT [some 0,some 1,some 2,some 3,some 4] rfl rfl ⟨_,rfl,rfl,by decide⟩ ⟨⟨_,rfl,rfl,rfl,rfl,rfl,cells4 ⟨_,rfl,rfl,rfl⟩ ⟨_,rfl,rfl,rfl⟩ ⟨_,rfl,rfl,rfl⟩ ⟨_,rfl,rfl,rfl⟩⟩,⟨_,rfl,rfl,rfl,rfl,rfl,fun x y _ hy=>row_upd2 hy (xr_step M (by decide) rfl x)⟩,rk rfl fun x _=>xr_keep M (by decide) x,rk rfl fun x _=>xr_keep M (by decide) x,rk rfl fun x _=>xr_keep M (by decide) x,trivial⟩ ⟨⟨_,rfl,rfl⟩,⟨_,rfl,rfl⟩,⟨_,rfl,rfl,rfl⟩,⟨_,rfl,rfl⟩,⟨_,rfl,rfl⟩,trivial⟩,by decide⟩
 ·refine so ?_
  conv=>whnf
  repeat (refine⟨by first | decide | exact ixl rfl,?_⟩;conv=>whnf)
  refine⟨i64_range (by decide) (by decide),?_⟩
  conv=>whnf
  exact⟨2,by decide,Weak.genT [some 0,some 1,some 2,some 3,some 4] rfl rfl ⟨_,rfl,rfl,by decide⟩ ⟨⟨_,rfl,rfl,rfl,rfl,rfl,cells4 ⟨_,rfl,rfl,rfl⟩ ⟨_,rfl,rfl,rfl⟩ ⟨_,rfl,rfl,rfl⟩ ⟨_,rfl,rfl,rfl⟩⟩,rk rfl fun x _=>xr_keep M (by decide) x,rk rfl fun x _=>xr_keep M (by decide) x,⟨_,rfl,rfl,rfl,rfl,rfl,fun x y _ hy=>row_upd2 hy (xr_step M (by decide) rfl x)⟩,rk rfl fun x _=>xr_keep M (by decide) x,trivial⟩ ⟨⟨_,rfl,rfl⟩,⟨_,rfl,rfl⟩,⟨_,rfl,rfl,rfl⟩,⟨_,rfl,rfl⟩,⟨_,rfl,rfl⟩,trivial⟩,by decide⟩
 ·refine so ?_
  conv=>whnf
  repeat (refine⟨by first | decide | exact ixl rfl,?_⟩;conv=>whnf)
  refine⟨i64_range (by decide) (by decide),?_⟩
  conv=>whnf
  exact⟨3,by decide,Weak.genT [some 0,some 1,some 2,some 3,some 4] rfl rfl ⟨_,rfl,rfl,by decide⟩ ⟨⟨_,rfl,rfl,rfl,rfl,rfl,cells4 ⟨_,rfl,rfl,rfl⟩ ⟨_,rfl,rfl,rfl⟩ ⟨_,rfl,rfl,rfl⟩ ⟨_,rfl,rfl,rfl⟩⟩,rk rfl fun x _=>xr_keep M (by decide) x,⟨_,rfl,rfl,rfl,rfl,rfl,fun x y _ hy=>row_upd2 hy (xr_step M (by decide) rfl x)⟩,rk rfl fun x _=>xr_keep M (by decide) x,rk rfl fun x _=>xr_keep M (by decide) x,trivial⟩ ⟨⟨_,rfl,rfl⟩,⟨_,rfl,rfl⟩,⟨_,rfl,rfl,rfl⟩,⟨_,rfl,rfl⟩,⟨_,rfl,rfl⟩,trivial⟩,by decide⟩
 ·refine so ?_
  conv=>whnf
  repeat (refine⟨by first | decide | exact ixl rfl,?_⟩;conv=>whnf)
  refine⟨i64_range (by decide) (by decide),?_⟩
  conv=>whnf
  exact⟨4,by decide,Weak.genT [some 0,some 1,some 2,some 3,some 4] rfl rfl ⟨_,rfl,rfl,by decide⟩ ⟨⟨_,rfl,rfl,rfl,rfl,rfl,cells4 ⟨_,rfl,rfl,rfl⟩ ⟨_,rfl,rfl,rfl⟩ ⟨_,rfl,rfl,rfl⟩ ⟨_,rfl,rfl,rfl⟩⟩,rk rfl fun x _=>xr_keep M (by decide) x,rk rfl fun x _=>xr_keep M (by decide) x,rk rfl fun x _=>xr_keep M (by decide) x,⟨_,rfl,rfl,rfl,rfl,rfl,fun x y _ hy=>row_upd2 hy (xr_step M (by decide) rfl x)⟩,trivial⟩ ⟨⟨_,rfl,rfl⟩,⟨_,rfl,rfl⟩,⟨_,rfl,rfl,rfl⟩,⟨_,rfl,rfl⟩,⟨_,rfl,rfl⟩,trivial⟩,by decide⟩
 ·refine so ?_
  conv=>whnf
  exact Weak.genT (tl:=[(0,.c .any)]) (xs:=[gG 4 idn,gq 4 (xch (sw 2 1) M 0),gq 4 (xch (sw 2 1) M 1),gq 4 (xch (sw 2 1) M 2),gq 4 (xch (sw 2 1) M 3)]) [some 0,some 1,some 3,some 2,some 4] rfl rfl ⟨_,rfl,rfl,by decide⟩ ⟨⟨_,rfl,rfl,rfl,rfl,rfl,cells4 ⟨_,rfl,rfl,rfl⟩ ⟨_,rfl,rfl,rfl⟩ ⟨_,rfl,rfl,rfl⟩ ⟨_,rfl,rfl,rfl⟩⟩,rk rfl fun x _=>xr_all M (by decide) x,rk rfl fun x _=>xr_all M (by decide) x,rk rfl fun x _=>xr_all M (by decide) x,rk rfl fun x _=>xr_all M (by decide) x,trivial⟩ ⟨⟨rfl,rfl⟩,trivial⟩
set_option maxHeartbeats 8000000 in
theorem exch_4_3_1 (M:Nat->Nat->Rat):FnT Tryz.prog true 92 1 ([gG 4 idn,gq 4 (M 0),gq 4 (M 1),gq 4 (M 2),gq 4 (M 3)].map gb) [.c (.gs 0 0),.c (.int .i64 3),.c (.int .i64 1)] (.c .any) ([gG 4 idn,gq 4 (xch (sw 3 1) M 0),gq 4 (xch (sw 3 1) M 1),gq 4 (xch (sw 3 1) M 2),gq 4 (xch (sw 3 1) M 3)].map gb):=by
 refine fnt_okS (E:=E1m) E1m_ok Tryz.func92 rfl (by kernel_rfl) ?_
 refine sq ?_
 conv=>whnf
 repeat (refine⟨by decide,by decide,?_⟩;conv=>whnf)
 refine⟨gst [(0,.c (.gs 0 0)),(1,.c (.int .i64 3)),(2,.c (.int .i64 1))] [gG 4 (sw 3 1),gq 4 (M 0),gq 4 (M 1),gq 4 (M 2),gq 4 (M 3)],Weak.genT [some 0,some 1,some 2,some 3,some 4] rfl rfl ⟨_,rfl,rfl,by decide⟩ ⟨⟨_,rfl,rfl,rfl,rfl,rfl,cells4 ⟨_,rfl,rfl,rfl⟩ ⟨_,rfl,rfl,rfl⟩ ⟨_,rfl,rfl,rfl⟩ ⟨_,rfl,rfl,rfl⟩⟩,rs rfl,rs rfl,rs rfl,rs rfl,trivial⟩ ⟨⟨_,rfl,rfl,rfl⟩,⟨_,rfl,rfl⟩,⟨_,rfl,rfl⟩,trivial⟩,?_⟩
 refine sq ?_
 conv=>whnf
 refine⟨(fun k:Nat=>gst [(1,.c (.int .i64 3)),(2,.c (.int .i64 1)),(22,.c (.gs 0 0)),(23,.c (.int .i64 4)),(24,.c (.int .i64 (k:Nat)))] [gG 4 (sw 3 1),gq 4 (xr M 3 1 k 0),gq 4 (xr M 3 1 k 1),gq 4 (xr M 3 1 k 2),gq 4 (xr M 3 1 k 3)]) 0,Weak.genT [some 0,some 1,some 2,some 3,some 4] rfl rfl ⟨_,rfl,rfl,by decide⟩ ⟨⟨_,rfl,rfl,rfl,rfl,rfl,cells4 ⟨_,rfl,rfl,rfl⟩ ⟨_,rfl,rfl,rfl⟩ ⟨_,rfl,rfl,rfl⟩ ⟨_,rfl,rfl,rfl⟩⟩,rk rfl fun x _=>xr_zero M 3 1 0 x,rk rfl fun x _=>xr_zero M 3 1 1 x,rk rfl fun x _=>xr_zero M 3 1 2 x,rk rfl fun x _=>xr_zero M 3 1 3 x,trivial⟩ ⟨⟨_,rfl,rfl⟩,⟨_,rfl,rfl⟩,⟨_,rfl,rfl,rfl⟩,⟨_,rfl,rfl⟩,⟨_,rfl,rfl⟩,trivial⟩,?_⟩
 refine swp_block (swp_loop (fun k:Nat=>gst [(1,.c (.int .i64 3)),(2,.c (.int .i64 1)),(22,.c (.gs 0 0)),(23,.c (.int .i64 4)),(24,.c (.int .i64 (k:Nat)))] [gG 4 (sw 3 1),gq 4 (xr M 3 1 k 0),gq 4 (xr M 3 1 k 1),gq 4 (xr M 3 1 k 2),gq 4 (xr M 3 1 k 3)]) (fun k=>4-k) (fun k=>k≤4) 0 (Weak.refl _) (by decide) fun k hk=>?_)
 rcases(show k=0∨k=1∨k=2∨k=3∨k=4 by omega)with rfl | rfl | rfl | rfl | rfl
 ·refine so ?_
  conv=>whnf
  repeat (refine⟨by first | decide | exact ixl rfl,?_⟩;conv=>whnf)
  refine⟨i64_range (by decide) (by decide),?_⟩
  conv=>whnf
  exact⟨1,by decide,Weak.genT [some 0,some 1,some 2,some 3,some 4] rfl rfl ⟨_,rfl,rfl,by decide⟩ ⟨⟨_,rfl,rfl,rfl,rfl,rfl,cells4 ⟨_,rfl,rfl,rfl⟩ ⟨_,rfl,rfl,rfl⟩ ⟨_,rfl,rfl,rfl⟩ ⟨_,rfl,rfl,rfl⟩⟩,⟨_,rfl,rfl,rfl,rfl,rfl,fun x y _ hy=>row_upd2 hy (xr_step M (by decide) rfl x)⟩,rk rfl fun x _=>xr_keep M (by decide) x,rk rfl fun x _=>xr_keep M (by decide) x,rk rfl fun x _=>xr_keep M (by decide) x,trivial⟩ ⟨⟨_,rfl,rfl⟩,⟨_,rfl,rfl⟩,⟨_,rfl,rfl,rfl⟩,⟨_,rfl,rfl⟩,⟨_,rfl,rfl⟩,trivial⟩,by decide⟩
 ·refine so ?_
  conv=>whnf
  repeat (refine⟨by first | decide | exact ixl rfl,?_⟩;conv=>whnf)
  refine⟨i64_range (by decide) (by decide),?_⟩
  conv=>whnf
  exact⟨2,by decide,Weak.genT [some 0,some 1,some 2,some 3,some 4] rfl rfl ⟨_,rfl,rfl,by decide⟩ ⟨⟨_,rfl,rfl,rfl,rfl,rfl,cells4 ⟨_,rfl,rfl,rfl⟩ ⟨_,rfl,rfl,rfl⟩ ⟨_,rfl,rfl,rfl⟩ ⟨_,rfl,rfl,rfl⟩⟩,rk rfl fun x _=>xr_keep M (by decide) x,rk rfl fun x _=>xr_keep M (by decide) x,rk rfl fun x _=>xr_keep M (by decide) x,⟨_,rfl,rfl,rfl,rfl,rfl,fun x y _ hy=>row_upd2 hy (xr_step M (by decide) rfl x)⟩,trivial⟩ ⟨⟨_,rfl,rfl⟩,⟨_,rfl,rfl⟩,⟨_,rfl,rfl,rfl⟩,⟨_,rfl,rfl⟩,⟨_,rfl,rfl⟩,trivial⟩,by decide⟩
 ·refine so ?_
  conv=>whnf
  repeat (refine⟨by first | decide | exact ixl rfl,?_⟩;conv=>whnf)
  refine⟨i64_range (by decide) (by decide),?_⟩
  conv=>whnf
  exact⟨3,by decide,Weak.genT [some 0,some 1,some 2,some 3,some 4] rfl rfl ⟨_,rfl,rfl,by decide⟩ ⟨⟨_,rfl,rfl,rfl,rfl,rfl,cells4 ⟨_,rfl,rfl,rfl⟩ ⟨_,rfl,rfl,rfl⟩ ⟨_,rfl,rfl,rfl⟩ ⟨_,rfl,rfl,rfl⟩⟩,rk rfl fun x _=>xr_keep M (by decide) x,rk rfl fun x _=>xr_keep M (by decide) x,⟨_,rfl,rfl,rfl,rfl,rfl,fun x y _ hy=>row_upd2 hy (xr_step M (by decide) rfl x)⟩,rk rfl fun x _=>xr_keep M (by decide) x,trivial⟩ ⟨⟨_,rfl,rfl⟩,⟨_,rfl,rfl⟩,⟨_,rfl,rfl,rfl⟩,⟨_,rfl,rfl⟩,⟨_,rfl,rfl⟩,trivial⟩,by decide⟩
 ·refine so ?_
  conv=>whnf
  repeat (refine⟨by first | decide | exact ixl rfl,?_⟩;conv=>whnf)
  refine⟨i64_range (by decide) (by decide),?_⟩
  conv=>whnf
  exact⟨4,by decide,Weak.genT [some 0,some 1,some 2,some 3,some 4] rfl rfl ⟨_,rfl,rfl,by decide⟩ ⟨⟨_,rfl,rfl,rfl,rfl,rfl,cells4 ⟨_,rfl,rfl,rfl⟩ ⟨_,rfl,rfl,rfl⟩ ⟨_,rfl,rfl,rfl⟩ ⟨_,rfl,rfl,rfl⟩⟩,rk rfl fun x _=>xr_keep M (by decide) x,⟨_,rfl,rfl,rfl,rfl,rfl,fun x y _ hy=>row_upd2 hy (xr_step M (by decide) rfl x)⟩,rk rfl fun x _=>xr_keep M (by decide) x,rk rfl fun x _=>xr_keep M (by decide) x,trivial⟩ ⟨⟨_,rfl,rfl⟩,⟨_,rfl,rfl⟩,⟨_,rfl,rfl,rfl⟩,⟨_,rfl,rfl⟩,⟨_,rfl,rfl⟩,trivial⟩,by decide⟩
 ·refine so ?_
  conv=>whnf
  exact Weak.genT (tl:=[(0,.c .any)]) (xs:=[gG 4 idn,gq 4 (xch (sw 3 1) M 0),gq 4 (xch (sw 3 1) M 1),gq 4 (xch (sw 3 1) M 2),gq 4 (xch (sw 3 1) M 3)]) [some 0,some 1,some 4,some 3,some 2] rfl rfl ⟨_,rfl,rfl,by decide⟩ ⟨⟨_,rfl,rfl,rfl,rfl,rfl,cells4 ⟨_,rfl,rfl,rfl⟩ ⟨_,rfl,rfl,rfl⟩ ⟨_,rfl,rfl,rfl⟩ ⟨_,rfl,rfl,rfl⟩⟩,rk rfl fun x _=>xr_all M (by decide) x,rk rfl fun x _=>xr_all M (by decide) x,rk rfl fun x _=>xr_all M (by decide) x,rk rfl fun x _=>xr_all M (by decide) x,trivial⟩ ⟨⟨rfl,rfl⟩,trivial⟩
set_option maxHeartbeats 8000000 in
theorem exch_4_3_2 (M:Nat->Nat->Rat):FnT Tryz.prog true 92 1 ([gG 4 idn,gq 4 (M 0),gq 4 (M 1),gq 4 (M 2),gq 4 (M 3)].map gb) [.c (.gs 0 0),.c (.int .i64 3),.c (.int .i64 2)] (.c .any) ([gG 4 idn,gq 4 (xch (sw 3 2) M 0),gq 4 (xch (sw 3 2) M 1),gq 4 (xch (sw 3 2) M 2),gq 4 (xch (sw 3 2) M 3)].map gb):=by
 refine fnt_okS (E:=E1m) E1m_ok Tryz.func92 rfl (by kernel_rfl) ?_
 refine sq ?_
 conv=>whnf
 repeat (refine⟨by decide,by decide,?_⟩;conv=>whnf)
 refine⟨gst [(0,.c (.gs 0 0)),(1,.c (.int .i64 3)),(2,.c (.int .i64 2))] [gG 4 (sw 3 2),gq 4 (M 0),gq 4 (M 1),gq 4 (M 2),gq 4 (M 3)],Weak.genT [some 0,some 1,some 2,some 3,some 4] rfl rfl ⟨_,rfl,rfl,by decide⟩ ⟨⟨_,rfl,rfl,rfl,rfl,rfl,cells4 ⟨_,rfl,rfl,rfl⟩ ⟨_,rfl,rfl,rfl⟩ ⟨_,rfl,rfl,rfl⟩ ⟨_,rfl,rfl,rfl⟩⟩,rs rfl,rs rfl,rs rfl,rs rfl,trivial⟩ ⟨⟨_,rfl,rfl,rfl⟩,⟨_,rfl,rfl⟩,⟨_,rfl,rfl⟩,trivial⟩,?_⟩
 refine sq ?_
 conv=>whnf
 refine⟨(fun k:Nat=>gst [(1,.c (.int .i64 3)),(2,.c (.int .i64 2)),(22,.c (.gs 0 0)),(23,.c (.int .i64 4)),(24,.c (.int .i64 (k:Nat)))] [gG 4 (sw 3 2),gq 4 (xr M 3 2 k 0),gq 4 (xr M 3 2 k 1),gq 4 (xr M 3 2 k 2),gq 4 (xr M 3 2 k 3)]) 0,Weak.genT [some 0,some 1,some 2,some 3,some 4] rfl rfl ⟨_,rfl,rfl,by decide⟩ ⟨⟨_,rfl,rfl,rfl,rfl,rfl,cells4 ⟨_,rfl,rfl,rfl⟩ ⟨_,rfl,rfl,rfl⟩ ⟨_,rfl,rfl,rfl⟩ ⟨_,rfl,rfl,rfl⟩⟩,rk rfl fun x _=>xr_zero M 3 2 0 x,rk rfl fun x _=>xr_zero M 3 2 1 x,rk rfl fun x _=>xr_zero M 3 2 2 x,rk rfl fun x _=>xr_zero M 3 2 3 x,trivial⟩ ⟨⟨_,rfl,rfl⟩,⟨_,rfl,rfl⟩,⟨_,rfl,rfl,rfl⟩,⟨_,rfl,rfl⟩,⟨_,rfl,rfl⟩,trivial⟩,?_⟩
 refine swp_block (swp_loop (fun k:Nat=>gst [(1,.c (.int .i64 3)),(2,.c (.int .i64 2)),(22,.c (.gs 0 0)),(23,.c (.int .i64 4)),(24,.c (.int .i64 (k:Nat)))] [gG 4 (sw 3 2),gq 4 (xr M 3 2 k 0),gq 4 (xr M 3 2 k 1),gq 4 (xr M 3 2 k 2),gq 4 (xr M 3 2 k 3)]) (fun k=>4-k) (fun k=>k≤4) 0 (Weak.refl _) (by decide) fun k hk=>?_)
 rcases(show k=0∨k=1∨k=2∨k=3∨k=4 by omega)with rfl | rfl | rfl | rfl | rfl
 ·refine so ?_
  conv=>whnf
  repeat (refine⟨by first | decide | exact ixl rfl,?_⟩;conv=>whnf)
  refine⟨i64_range (by decide) (by decide),?_⟩
  conv=>whnf
  exact⟨1,by decide,Weak.genT [some 0,some 1,some 2,some 3,some 4] rfl rfl ⟨_,rfl,rfl,by decide⟩ ⟨⟨_,rfl,rfl,rfl,rfl,rfl,cells4 ⟨_,rfl,rfl,rfl⟩ ⟨_,rfl,rfl,rfl⟩ ⟨_,rfl,rfl,rfl⟩ ⟨_,rfl,rfl,rfl⟩⟩,⟨_,rfl,rfl,rfl,rfl,rfl,fun x y _ hy=>row_upd2 hy (xr_step M (by decide) rfl x)⟩,rk rfl fun x _=>xr_keep M (by decide) x,rk rfl fun x _=>xr_keep M (by decide) x,rk rfl fun x _=>xr_keep M (by decide) x,trivial⟩ ⟨⟨_,rfl,rfl⟩,⟨_,rfl,rfl⟩,⟨_,rfl,rfl,rfl⟩,⟨_,rfl,rfl⟩,⟨_,rfl,rfl⟩,trivial⟩,by decide⟩
 ·refine so ?_
  conv=>whnf
  repeat (refine⟨by first | decide | exact ixl rfl,?_⟩;conv=>whnf)
  refine⟨i64_range (by decide) (by decide),?_⟩
  conv=>whnf
  exact⟨2,by decide,Weak.genT [some 0,some 1,some 2,some 3,some 4] rfl rfl ⟨_,rfl,rfl,by decide⟩ ⟨⟨_,rfl,rfl,rfl,rfl,rfl,cells4 ⟨_,rfl,rfl,rfl⟩ ⟨_,rfl,rfl,rfl⟩ ⟨_,rfl,rfl,rfl⟩ ⟨_,rfl,rfl,rfl⟩⟩,rk rfl fun x _=>xr_keep M (by decide) x,⟨_,rfl,rfl,rfl,rfl,rfl,fun x y _ hy=>row_upd2 hy (xr_step M (by decide) rfl x)⟩,rk rfl fun x _=>xr_keep M (by decide) x,rk rfl fun x _=>xr_keep M (by decide) x,trivial⟩ ⟨⟨_,rfl,rfl⟩,⟨_,rfl,rfl⟩,⟨_,rfl,rfl,rfl⟩,⟨_,rfl,rfl⟩,⟨_,rfl,rfl⟩,trivial⟩,by decide⟩
 ·refine so ?_
  conv=>whnf
  repeat (refine⟨by first | decide | exact ixl rfl,?_⟩;conv=>whnf)
  refine⟨i64_range (by decide) (by decide),?_⟩
  conv=>whnf
  exact⟨3,by decide,Weak.genT [some 0,some 1,some 2,some 3,some 4] rfl rfl ⟨_,rfl,rfl,by decide⟩ ⟨⟨_,rfl,rfl,rfl,rfl,rfl,cells4 ⟨_,rfl,rfl,rfl⟩ ⟨_,rfl,rfl,rfl⟩ ⟨_,rfl,rfl,rfl⟩ ⟨_,rfl,rfl,rfl⟩⟩,rk rfl fun x _=>xr_keep M (by decide) x,rk rfl fun x _=>xr_keep M (by decide) x,rk rfl fun x _=>xr_keep M (by decide) x,⟨_,rfl,rfl,rfl,rfl,rfl,fun x y _ hy=>row_upd2 hy (xr_step M (by decide) rfl x)⟩,trivial⟩ ⟨⟨_,rfl,rfl⟩,⟨_,rfl,rfl⟩,⟨_,rfl,rfl,rfl⟩,⟨_,rfl,rfl⟩,⟨_,rfl,rfl⟩,trivial⟩,by decide⟩
 ·refine so ?_
  conv=>whnf
  repeat (refine⟨by first | decide | exact ixl rfl,?_⟩;conv=>whnf)
  refine⟨i64_range (by decide) (by decide),?_⟩
  conv=>whnf
  exact⟨4,by decide,Weak.genT [some 0,some 1,some 2,some 3,some 4] rfl rfl ⟨_,rfl,rfl,by decide⟩ ⟨⟨_,rfl,rfl,rfl,rfl,rfl,cells4 ⟨_,rfl,rfl,rfl⟩ ⟨_,rfl,rfl,rfl⟩ ⟨_,rfl,rfl,rfl⟩ ⟨_,rfl,rfl,rfl⟩⟩,rk rfl fun x _=>xr_keep M (by decide) x,rk rfl fun x _=>xr_keep M (by decide) x,⟨_,rfl,rfl,rfl,rfl,rfl,fun x y _ hy=>row_upd2 hy (xr_step M (by decide) rfl x)⟩,rk rfl fun x _=>xr_keep M (by decide) x,trivial⟩ ⟨⟨_,rfl,rfl⟩,⟨_,rfl,rfl⟩,⟨_,rfl,rfl,rfl⟩,⟨_,rfl,rfl⟩,⟨_,rfl,rfl⟩,trivial⟩,by decide⟩
 ·refine so ?_
  conv=>whnf
  exact Weak.genT (tl:=[(0,.c .any)]) (xs:=[gG 4 idn,gq 4 (xch (sw 3 2) M 0),gq 4 (xch (sw 3 2) M 1),gq 4 (xch (sw 3 2) M 2),gq 4 (xch (sw 3 2) M 3)]) [some 0,some 1,some 2,some 4,some 3] rfl rfl ⟨_,rfl,rfl,by decide⟩ ⟨⟨_,rfl,rfl,rfl,rfl,rfl,cells4 ⟨_,rfl,rfl,rfl⟩ ⟨_,rfl,rfl,rfl⟩ ⟨_,rfl,rfl,rfl⟩ ⟨_,rfl,rfl,rfl⟩⟩,rk rfl fun x _=>xr_all M (by decide) x,rk rfl fun x _=>xr_all M (by decide) x,rk rfl fun x _=>xr_all M (by decide) x,rk rfl fun x _=>xr_all M (by decide) x,trivial⟩ ⟨⟨rfl,rfl⟩,trivial⟩
set_option maxHeartbeats 8000000 in
theorem exch_5_2_1 (M:Nat->Nat->Rat):FnT Tryz.prog true 92 1 ([gG 5 idn,gq 5 (M 0),gq 5 (M 1),gq 5 (M 2),gq 5 (M 3),gq 5 (M 4)].map gb) [.c (.gs 0 0),.c (.int .i64 2),.c (.int .i64 1)] (.c .any) ([gG 5 idn,gq 5 (xch (sw 2 1) M 0),gq 5 (xch (sw 2 1) M 1),gq 5 (xch (sw 2 1) M 2),gq 5 (xch (sw 2 1) M 3),gq 5 (xch (sw 2 1) M 4)].map gb):=by
 refine fnt_okS (E:=E1m) E1m_ok Tryz.func92 rfl (by kernel_rfl) ?_
 refine sq ?_
 conv=>whnf
 repeat (refine⟨by decide,by decide,?_⟩;conv=>whnf)
 refine⟨gst [(0,.c (.gs 0 0)),(1,.c (.int .i64 2)),(2,.c (.int .i64 1))] [gG 5 (sw 2 1),gq 5 (M 0),gq 5 (M 1),gq 5 (M 2),gq 5 (M 3),gq 5 (M 4)],Weak.genT [some 0,some 1,some 2,some 3,some 4,some 5] rfl rfl ⟨_,rfl,rfl,by decide⟩ ⟨⟨_,rfl,rfl,rfl,rfl,rfl,cells5 ⟨_,rfl,rfl,rfl⟩ ⟨_,rfl,rfl,rfl⟩ ⟨_,rfl,rfl,rfl⟩ ⟨_,rfl,rfl,rfl⟩ ⟨_,rfl,rfl,rfl⟩⟩,rs rfl,rs rfl,rs rfl,rs rfl,rs rfl,trivial⟩ ⟨⟨_,rfl,rfl,rfl⟩,⟨_,rfl,rfl⟩,⟨_,rfl,rfl⟩,trivial⟩,?_⟩
 refine sq ?_
 conv=>whnf
 refine⟨(fun k:Nat=>gst [(1,.c (.int .i64 2)),(2,.c (.int .i64 1)),(22,.c (.gs 0 0)),(23,.c (.int .i64 5)),(24,.c (.int .i64 (k:Nat)))] [gG 5 (sw 2 1),gq 5 (xr M 2 1 k 0),gq 5 (xr M 2 1 k 1),gq 5 (xr M 2 1 k 2),gq 5 (xr M 2 1 k 3),gq 5 (xr M 2 1 k 4)]) 0,Weak.genT [some 0,some 1,some 2,some 3,some 4,some 5] rfl rfl ⟨_,rfl,rfl,by decide⟩ ⟨⟨_,rfl,rfl,rfl,rfl,rfl,cells5 ⟨_,rfl,rfl,rfl⟩ ⟨_,rfl,rfl,rfl⟩ ⟨_,rfl,rfl,rfl⟩ ⟨_,rfl,rfl,rfl⟩ ⟨_,rfl,rfl,rfl⟩⟩,rk rfl fun x _=>xr_zero M 2 1 0 x,rk rfl fun x _=>xr_zero M 2 1 1 x,rk rfl fun x _=>xr_zero M 2 1 2 x,rk rfl fun x _=>xr_zero M 2 1 3 x,rk rfl fun x _=>xr_zero M 2 1 4 x,trivial⟩ ⟨⟨_,rfl,rfl⟩,⟨_,rfl,rfl⟩,⟨_,rfl,rfl,rfl⟩,⟨_,rfl,rfl⟩,⟨_,rfl,rfl⟩,trivial⟩,?_⟩
 refine swp_block (swp_loop (fun k:Nat=>gst [(1,.c (.int .i64 2)),(2,.c (.int .i64 1)),(22,.c (.gs 0 0)),(23,.c (.int .i64 5)),(24,.c (.int .i64 (k:Nat)))] [gG 5 (sw 2 1),gq 5 (xr M 2 1 k 0),gq 5 (xr M 2 1 k 1),gq 5 (xr M 2 1 k 2),gq 5 (xr M 2 1 k 3),gq 5 (xr M 2 1 k 4)]) (fun k=>5-k) (fun k=>k≤5) 0 (Weak.refl _) (by decide) fun k hk=>?_)
 rcases(show k=0∨k=1∨k=2∨k=3∨k=4∨k=5 by omega)with rfl | rfl | rfl | rfl | rfl | rfl
 ·refine so ?_
  conv=>whnf
  repeat (refine⟨by first | decide | exact ixl rfl,?_⟩;conv=>whnf)
  refine⟨i64_range (by decide) (by decide),?_⟩
  conv=>whnf
  exact⟨1,by decide,Weak.genT [some 0,some 1,some 2,some 3,some 4,some 5] rfl rfl ⟨_,rfl,rfl,by decide⟩ ⟨⟨_,rfl,rfl,rfl,rfl,rfl,cells5 ⟨_,rfl,rfl,rfl⟩ ⟨_,rfl,rfl,rfl⟩ ⟨_,rfl,rfl,rfl⟩ ⟨_,rfl,rfl,rfl⟩ ⟨_,rfl,rfl,rfl⟩⟩,⟨_,rfl,rfl,rfl,rfl,rfl,fun x y _ hy=>row_upd2 hy (xr_step M (by decide) rfl x)⟩,rk rfl fun x _=>xr_keep M (by decide) x,rk rfl fun x _=>xr_keep M (by decide) x,rk rfl fun x _=>xr_keep M (by decide) x,rk rfl fun x _=>xr_keep M (by decide) x,trivial⟩ ⟨⟨_,rfl,rfl⟩,⟨_,rfl,rfl⟩,⟨_,rfl,rfl,rfl⟩,⟨_,rfl,rfl⟩,⟨_,rfl,rfl⟩,trivial⟩,by decide⟩
 ·refine so ?_
  conv=>whnf
  repeat (refine⟨by first | decide | exact ixl rfl,?_⟩;conv=>whnf)
  refine⟨i64_range (by decide) (by decide),?_⟩
  conv=>whnf
  exact⟨2,by decide,Weak.genT [some 0,some 1,some 2,some 3,some 4,some 5] rfl rfl ⟨_,rfl,rfl,by decide⟩ ⟨⟨_,rfl,rfl,rfl,rfl,rfl,cells5 ⟨_,rfl,rfl,rfl⟩ ⟨_,rfl,rfl,rfl⟩ ⟨_,rfl,rfl,rfl⟩ ⟨_,rfl,rfl,rfl⟩ ⟨_,rfl,rfl,rfl⟩⟩,rk rfl fun x _=>xr_keep M (by decide) x,rk rfl fun x _=>xr_keep M (by decide) x,⟨_,rfl,rfl,rfl,rfl,rfl,fun x y _ hy=>row_upd2 hy (xr_step M (by decide) rfl x)⟩,rk rfl fun x _=>xr_keep M (by decide) x,rk rfl fun x _=>xr_keep M (by decide) x,trivial⟩ ⟨⟨_,rfl,rfl⟩,⟨_,rfl,rfl⟩,⟨_,rfl,rfl,rfl⟩,⟨_,rfl,rfl⟩,⟨_,rfl,rfl⟩,trivial⟩,by decide⟩
 ·refine so ?_
  conv=>whnf
  repeat (refine⟨by first | decide | exact ixl rfl,?_⟩;conv=>whnf)
  refine⟨i64_range (by decide) (by decide),?_⟩
  conv=>whnf
  exact⟨3,by decide,Weak.genT [some 0,some 1,some 2,some 3,some 4,some 5] rfl rfl ⟨_,rfl,rfl,by decide⟩ ⟨⟨_,rfl,rfl,rfl,rfl,rfl,cells5 ⟨_,rfl,rfl,rfl⟩ ⟨_,rfl,rfl,rfl⟩ ⟨_,rfl,rfl,rfl⟩ ⟨_,rfl,rfl,rfl⟩ ⟨_,rfl,rfl,rfl⟩⟩,rk rfl fun x _=>xr_keep M (by decide) x,⟨_,rfl,rfl,rfl,rfl,rfl,fun x y _ hy=>row_upd2 hy (xr_step M (by decide) rfl x)⟩,rk rfl fun x _=>xr_keep M (by decide) x,rk rfl fun x _=>xr_keep M (by decide) x,rk rfl fun x _=>xr_keep M (by decide) x,trivial⟩ ⟨⟨_,rfl,rfl⟩,⟨_,rfl,rfl⟩,⟨_,rfl,rfl,rfl⟩,⟨_,rfl,rfl⟩,⟨_,rfl,rfl⟩,trivial⟩,by decide⟩
 ·refine so ?_
  conv=>whnf
  repeat (refine⟨by first | decide | exact ixl rfl,?_⟩;conv=>whnf)
  refine⟨i64_range (by decide) (by decide),?_⟩
  conv=>whnf
  exact⟨4,by decide,Weak.genT [some 0,some 1,some 2,some 3,some 4,some 5] rfl rfl ⟨_,rfl,rfl,by decide⟩ ⟨⟨_,rfl,rfl,rfl,rfl,rfl,cells5 ⟨_,rfl,rfl,rfl⟩ ⟨_,rfl,rfl,rfl⟩ ⟨_,rfl,rfl,rfl⟩ ⟨_,rfl,rfl,rfl⟩ ⟨_,rfl,rfl,rfl⟩⟩,rk rfl fun x _=>xr_keep M (by decide) x,rk rfl fun x _=>xr_keep M (by decide) x,rk rfl fun x _=>xr_keep M (by decide) x,⟨_,rfl,rfl,rfl,rfl,rfl,fun x y _ hy=>row_upd2 hy (xr_step M (by decide) rfl x)⟩,rk rfl fun x _=>xr_keep M (by decide) x,trivial⟩ ⟨⟨_,rfl,rfl⟩,⟨_,rfl,rfl⟩,⟨_,rfl,rfl,rfl⟩,⟨_,rfl,rfl⟩,⟨_,rfl,rfl⟩,trivial⟩,by decide⟩
 ·refine so ?_
  conv=>whnf
  repeat (refine⟨by first | decide | exact ixl rfl,?_⟩;conv=>whnf)
  refine⟨i64_range (by decide) (by decide),?_⟩
  conv=>whnf
  exact⟨5,by decide,Weak.genT [some 0,some 1,some 2,some 3,some 4,some 5] rfl rfl ⟨_,rfl,rfl,by decide⟩ ⟨⟨_,rfl,rfl,rfl,rfl,rfl,cells5 ⟨_,rfl,rfl,rfl⟩ ⟨_,rfl,rfl,rfl⟩ ⟨_,rfl,rfl,rfl⟩ ⟨_,rfl,rfl,rfl⟩ ⟨_,rfl,rfl,rfl⟩⟩,rk rfl fun x _=>xr_keep M (by decide) x,rk rfl fun x _=>xr_keep M (by decide) x,rk rfl fun x _=>xr_keep M (by decide) x,rk rfl fun x _=>xr_keep M (by decide) x,⟨_,rfl,rfl,rfl,rfl,rfl,fun x y _ hy=>row_upd2 hy (xr_step M (by decide) rfl x)⟩,trivial⟩ ⟨⟨_,rfl,rfl⟩,⟨_,rfl,rfl⟩,⟨_,rfl,rfl,rfl⟩,⟨_,rfl,rfl⟩,⟨_,rfl,rfl⟩,trivial⟩,by decide⟩
 ·refine so ?_
  conv=>whnf
  exact Weak.genT (tl:=[(0,.c .any)]) (xs:=[gG 5 idn,gq 5 (xch (sw 2 1) M 0),gq 5 (xch (sw 2 1) M 1),gq 5 (xch (sw 2 1) M 2),gq 5 (xch (sw 2 1) M 3),gq 5 (xch (sw 2 1) M 4)]) [some 0,some 1,some 3,some 2,some 4,some 5] rfl rfl ⟨_,rfl,rfl,by decide⟩ ⟨⟨_,rfl,rfl,rfl,rfl,rfl,cells5 ⟨_,rfl,rfl,rfl⟩ ⟨_,rfl,rfl,rfl⟩ ⟨_,rfl,rfl,rfl⟩ ⟨_,rfl,rfl,rfl⟩ ⟨_,rfl,rfl,rfl⟩⟩,rk rfl fun x _=>xr_all M (by decide) x,rk rfl fun x _=>xr_all M (by decide) x,rk rfl fun x _=>xr_all M (by decide) x,rk rfl fun x _=>xr_all M (by decide) x,rk rfl fun x _=>xr_all M (by decide) x,trivial⟩ ⟨⟨rfl,rfl⟩,trivial⟩
set_option maxHeartbeats 8000000 in
theorem exch_5_3_1 (M:Nat->Nat->Rat):FnT Tryz.prog true 92 1 ([gG 5 idn,gq 5 (M 0),gq 5 (M 1),gq 5 (M 2),gq 5 (M 3),gq 5 (M 4)].map gb) [.c (.gs 0 0),.c (.int .i64 3),.c (.int .i64 1)] (.c .any) ([gG 5 idn,gq 5 (xch (sw 3 1) M 0),gq 5 (xch (sw 3 1) M 1),gq 5 (xch (sw 3 1) M 2),gq 5 (xch (sw 3 1) M 3),gq 5 (xch (sw 3 1) M 4)].map gb):=by
 refine fnt_okS (E:=E1m) E1m_ok Tryz.func92 rfl (by kernel_rfl) ?_
 refine sq ?_
 conv=>whnf
 repeat (refine⟨by decide,by decide,?_⟩;conv=>whnf)
 refine⟨gst [(0,.c (.gs 0 0)),(1,.c (.int .i64 3)),(2,.c (.int .i64 1))] [gG 5 (sw 3 1),gq 5 (M 0),gq 5 (M 1),gq 5 (M 2),gq 5 (M 3),gq 5 (M 4)],Weak.genT [some 0,some 1,some 2,some 3,some 4,some 5] rfl rfl ⟨_,rfl,rfl,by decide⟩ ⟨⟨_,rfl,rfl,rfl,rfl,rfl,cells5 ⟨_,rfl,rfl,rfl⟩ ⟨_,rfl,rfl,rfl⟩ ⟨_,rfl,rfl,rfl⟩ ⟨_,rfl,rfl,rfl⟩ ⟨_,rfl,rfl,rfl⟩⟩,rs rfl,rs rfl,rs rfl,rs rfl,rs rfl,trivial⟩ ⟨⟨_,rfl,rfl,rfl⟩,⟨_,rfl,rfl⟩,⟨_,rfl,rfl⟩,trivial⟩,?_⟩
 refine sq ?_
 conv=>whnf
 refine⟨(fun k:Nat=>gst [(1,.c (.int .i64 3)),(2,.c (.int .i64 1)),(22,.c (.gs 0 0)),(23,.c (.int .i64 5)),(24,.c (.int .i64 (k:Nat)))] [gG 5 (sw 3 1),gq 5 (xr M 3 1 k 0),gq 5 (xr M 3 1 k 1),gq 5 (xr M 3 1 k 2),gq 5 (xr M 3 1 k 3),gq 5 (xr M 3 1 k 4)]) 0,Weak.genT [some 0,some 1,some 2,some 3,some 4,some 5] rfl rfl ⟨_,rfl,rfl,by decide⟩ ⟨⟨_,rfl,rfl,rfl,rfl,rfl,cells5 ⟨_,rfl,rfl,rfl⟩ ⟨_,rfl,rfl,rfl⟩ ⟨_,rfl,rfl,rfl⟩ ⟨_,rfl,rfl,rfl⟩ ⟨_,rfl,rfl,rfl⟩⟩,rk rfl fun x _=>xr_zero M 3 1 0 x,rk rfl fun x _=>xr_zero M 3 1 1 x,rk rfl fun x _=>xr_zero M 3 1 2 x,rk rfl fun x _=>xr_zero M 3 1 3 x,rk rfl fun x _=>xr_zero M 3 1 4 x,trivial⟩ ⟨⟨_,rfl,rfl⟩,⟨_,rfl,rfl⟩,⟨_,rfl,rfl,rfl⟩,⟨_,rfl,rfl⟩,⟨_,rfl,rfl⟩,trivial⟩,?_⟩
 refine swp_block (swp_loop (fun k:Nat=>gst [(1,.c (.int .i64 3)),(2,.c (.int .i64 1)),(22,.c (.gs 0 0)),(23,.c (.int .i64 5)),(24,.c (.int .i64 (k:Nat)))] [gG 5 (sw 3 1),gq 5 (xr M 3 1 k 0),gq 5 (xr M 3 1 k 1),gq 5 (xr M 3 1 k 2),gq 5 (xr M 3 1 k 3),gq 5 (xr M 3 1 k 4)]) (fun k=>5-k) (fun k=>k≤5) 0 (Weak.refl _) (by decide) fun k hk=>?_)
 rcases(show k=0∨k=1∨k=2∨k=3∨k=4∨k=5 by omega)with rfl | rfl | rfl | rfl | rfl | rfl
 ·refine so ?_
  conv=>whnf
  repeat (refine⟨by first | decide | exact ixl rfl,?_⟩;conv=>whnf)
  refine⟨i64_range (by decide) (by decide),?_⟩
  conv=>whnf
  exact⟨1,by decide,Weak.genT [some 0,some 1,some 2,some 3,some 4,some 5] rfl rfl ⟨_,rfl,rfl,by decide⟩ ⟨⟨_,rfl,rfl,rfl,rfl,rfl,cells5 ⟨_,rfl,rfl,rfl⟩ ⟨_,rfl,rfl,rfl⟩ ⟨_,rfl,rfl,rfl⟩ ⟨_,rfl,rfl,rfl⟩ ⟨_,rfl,rfl,rfl⟩⟩,⟨_,rfl,rfl,rfl,rfl,rfl,fun x y _ hy=>row_upd2 hy (xr_step M (by decide) rfl x)⟩,rk rfl fun x _=>xr_keep M (by decide) x,rk rfl fun x _=>xr_keep M (by decide) x,rk rfl fun x _=>xr_keep M (by decide) x,rk rfl fun x _=>xr_keep M (by decide) x,trivial⟩ ⟨⟨_,rfl,rfl⟩,⟨_,rfl,rfl⟩,⟨_,rfl,rfl,rfl⟩,⟨_,rfl,rfl⟩,⟨_,rfl,rfl⟩,trivial⟩,by decide⟩
 ·refine so ?_
  conv=>whnf
  repeat (refine⟨by first | decide | exact ixl rfl,?_⟩;conv=>whnf)
  refine⟨i64_range (by decide) (by decide),?_⟩
  conv=>whnf
  exact⟨2,by decide,Weak.genT [some 0,some 1,some 2,some 3,some 4,some 5] rfl rfl ⟨_,rfl,rfl,by decide⟩ ⟨⟨_,rfl,rfl,rfl,rfl,rfl,cells5 ⟨_,rfl,rfl,rfl⟩ ⟨_,rfl,rfl,rfl⟩ ⟨_,rfl,rfl,rfl⟩ ⟨_,rfl,rfl,rfl⟩ ⟨_,rfl,rfl,rfl⟩⟩,rk rfl fun x _=>xr_keep M (by decide) x,rk rfl fun x _=>xr_keep M (by decide) x,rk rfl fun x _=>xr_keep M (by decide) x,⟨_,rfl,rfl,rfl,rfl,rfl,fun x y _ hy=>row_upd2 hy (xr_step M (by decide) rfl x)⟩,rk rfl fun x _=>xr_keep M (by decide) x,trivial⟩ ⟨⟨_,rfl,rfl⟩,⟨_,rfl,rfl⟩,⟨_,rfl,rfl,rfl⟩,⟨_,rfl,rfl⟩,⟨_,rfl,rfl⟩,trivial⟩,by decide⟩
 ·refine so ?_
  conv=>whnf
  repeat (refine⟨by first | decide | exact ixl rfl,?_⟩;conv=>whnf)
  refine⟨i64_range (by decide) (by decide),?_⟩
  conv=>whnf
  exact⟨3,by decide,Weak.genT [some 0,some 1,some 2,some 3,some 4,some 5] rfl rfl ⟨_,rfl,rfl,by decide⟩ ⟨⟨_,rfl,rfl,rfl,rfl,rfl,cells5 ⟨_,rfl,rfl,rfl⟩ ⟨_,rfl,rfl,rfl⟩ ⟨_,rfl,rfl,rfl⟩ ⟨_,rfl,rfl,rfl⟩ ⟨_,rfl,rfl,rfl⟩⟩,rk rfl fun x _=>xr_keep M (by decide) x,rk rfl fun x _=>xr_keep M (by decide) x,⟨_,rfl,rfl,rfl,rfl,rfl,fun x y _ hy=>row_upd2 hy (xr_step M (by decide) rfl x)⟩,rk rfl fun x _=>xr_keep M (by decide) x,rk rfl fun x _=>xr_keep M (by decide) x,trivial⟩ ⟨⟨_,rfl,rfl⟩,⟨_,rfl,rfl⟩,⟨_,rfl,rfl,rfl⟩,⟨_,rfl,rfl⟩,⟨_,rfl,rfl⟩,trivial⟩,by decide⟩
 ·refine so ?_
  conv=>whnf
  repeat (refine⟨by first | decide | exact ixl rfl,?_⟩;conv=>whnf)
  refine⟨i64_range (by decide) (by decide),?_⟩
  conv=>whnf
  exact⟨4,by decide,Weak.genT [some 0,some 1,some 2,some 3,some 4,some 5] rfl rfl ⟨_,rfl,rfl,by decide⟩ ⟨⟨_,rfl,rfl,rfl,rfl,rfl,cells5 ⟨_,rfl,rfl,rfl⟩ ⟨_,rfl,rfl,rfl⟩ ⟨_,rfl,rfl,rfl⟩ ⟨_,rfl,rfl,rfl⟩ ⟨_,rfl,rfl,rfl⟩⟩,rk rfl fun x _=>xr_keep M (by decide) x,⟨_,rfl,rfl,rfl,rfl,rfl,fun x y _ hy=>row_upd2 hy (xr_step M (by decide) rfl x)⟩,rk rfl fun x _=>xr_keep M (by decide) x,rk rfl fun x _=>xr_keep M (by decide) x,rk rfl fun x _=>xr_keep M (by decide) x,trivial⟩ ⟨⟨_,rfl,rfl⟩,⟨_,rfl,rfl⟩,⟨_,rfl,rfl,rfl⟩,⟨_,rfl,rfl⟩,⟨_,rfl,rfl⟩,trivial⟩,by decide⟩
 ·refine so ?_
  conv=>whnf
  repeat (refine⟨by first | decide | exact ixl rfl,?_⟩;conv=>whnf)
  refine⟨i64_range (by decide) (by decide),?_⟩
  conv=>whnf
  exact⟨5,by decide,Weak.genT [some 0,some 1,some 2,some 3,some 4,some 5] rfl rfl ⟨_,rfl,rfl,by decide⟩ ⟨⟨_,rfl,rfl,rfl,rfl,rfl,cells5 ⟨_,rfl,rfl,rfl⟩ ⟨_,rfl,rfl,rfl⟩ ⟨_,rfl,rfl,rfl⟩ ⟨_,rfl,rfl,rfl⟩ ⟨_,rfl,rfl,rfl⟩⟩,rk rfl fun x _=>xr_keep M (by decide) x,rk rfl fun x _=>xr_keep M (by decide) x,rk rfl fun x _=>xr_keep M (by decide) x,rk rfl fun x _=>xr_keep M (by decide) x,⟨_,rfl,rfl,rfl,rfl,rfl,fun x y _ hy=>row_upd2 hy (xr_step M (by decide) rfl x)⟩,trivial⟩ ⟨⟨_,rfl,rfl⟩,⟨_,rfl,rfl⟩,⟨_,rfl,rfl,rfl⟩,⟨_,rfl,rfl⟩,⟨_,rfl,rfl⟩,trivial⟩,by decide⟩
 ·refine so ?_
  conv=>whnf
  exact Weak.genT (tl:=[(0,.c .any)]) (xs:=[gG 5 idn,gq 5 (xch (sw 3 1) M 0),gq 5 (xch (sw 3 1) M 1),gq 5 (xch (sw 3 1) M 2),gq 5 (xch (sw 3 1) M 3),gq 5 (xch (sw 3 1) M 4)]) [some 0,some 1,some 4,some 3,some 2,some 5] rfl rfl ⟨_,rfl,rfl,by decide⟩ ⟨⟨_,rfl,rfl,rfl,rfl,rfl,cells5 ⟨_,rfl,rfl,rfl⟩ ⟨_,rfl,rfl,rfl⟩ ⟨_,rfl,rfl,rfl⟩ ⟨_,rfl,rfl,rfl⟩ ⟨_,rfl,rfl,rfl⟩⟩,rk rfl fun x _=>xr_all M (by decide) x,rk rfl fun x _=>xr_all M (by decide) x,rk rfl fun x _=>xr_all M (by decide) x,rk rfl fun x _=>xr_all M (by decide) x,rk rfl fun x _=>xr_all M (by decide) x,trivial⟩ ⟨⟨rfl,rfl⟩,trivial⟩
set_option maxHeartbeats 8000000 in
theorem exch_5_4_1 (M:Nat->Nat->Rat):FnT Tryz.prog true 92 1 ([gG 5 idn,gq 5 (M 0),gq 5 (M 1),gq 5 (M 2),gq 5 (M 3),gq 5 (M 4)].map gb) [.c (.gs 0 0),.c (.int .i64 4),.c (.int .i64 1)] (.c .any) ([gG 5 idn,gq 5 (xch (sw 4 1) M 0),gq 5 (xch (sw 4 1) M 1),gq 5 (xch (sw 4 1) M 2),gq 5 (xch (sw 4 1) M 3),gq 5 (xch (sw 4 1) M 4)].map gb):=by
 refine fnt_okS (E:=E1m) E1m_ok Tryz.func92 rfl (by kernel_rfl) ?_
 refine sq ?_
 conv=>whnf
 repeat (refine⟨by decide,by decide,?_⟩;conv=>whnf)
 refine⟨gst [(0,.c (.gs 0 0)),(1,.c (.int .i64 4)),(2,.c (.int .i64 1))] [gG 5 (sw 4 1),gq 5 (M 0),gq 5 (M 1),gq 5 (M 2),gq 5 (M 3),gq 5 (M 4)],Weak.genT [some 0,some 1,some 2,some 3,some 4,some 5] rfl rfl ⟨_,rfl,rfl,by decide⟩ ⟨⟨_,rfl,rfl,rfl,rfl,rfl,cells5 ⟨_,rfl,rfl,rfl⟩ ⟨_,rfl,rfl,rfl⟩ ⟨_,rfl,rfl,rfl⟩ ⟨_,rfl,rfl,rfl⟩ ⟨_,rfl,rfl,rfl⟩⟩,rs rfl,rs rfl,rs rfl,rs rfl,rs rfl,trivial⟩ ⟨⟨_,rfl,rfl,rfl⟩,⟨_,rfl,rfl⟩,⟨_,rfl,rfl⟩,trivial⟩,?_⟩
 refine sq ?_
 conv=>whnf
 refine⟨(fun k:Nat=>gst [(1,.c (.int .i64 4)),(2,.c (.int .i64 1)),(22,.c (.gs 0 0)),(23,.c (.int .i64 5)),(24,.c (.int .i64 (k:Nat)))] [gG 5 (sw 4 1),gq 5 (xr M 4 1 k 0),gq 5 (xr M 4 1 k 1),gq 5 (xr M 4 1 k 2),gq 5 (xr M 4 1 k 3),gq 5 (xr M 4 1 k 4)]) 0,Weak.genT [some 0,some 1,some 2,some 3,some 4,some 5] rfl rfl ⟨_,rfl,rfl,by decide⟩ ⟨⟨_,rfl,rfl,rfl,rfl,rfl,cells5 ⟨_,rfl,rfl,rfl⟩ ⟨_,rfl,rfl,rfl⟩ ⟨_,rfl,rfl,rfl⟩ ⟨_,rfl,rfl,rfl⟩ ⟨_,rfl,rfl,rfl⟩⟩,rk rfl fun x _=>xr_zero M 4 1 0 x,rk rfl fun x _=>xr_zero M 4 1 1 x,rk rfl fun x _=>xr_zero M 4 1 2 x,rk rfl fun x _=>xr_zero M 4 1 3 x,rk rfl fun x _=>xr_zero M 4 1 4 x,trivial⟩ ⟨⟨_,rfl,rfl⟩,⟨_,rfl,rfl⟩,⟨_,rfl,rfl,rfl⟩,⟨_,rfl,rfl⟩,⟨_,rfl,rfl⟩,trivial⟩,?_⟩
 refine swp_block (swp_loop (fun k:Nat=>gst [(1,.c (.int .i64 4)),(2,.c (.int .i64 1)),(22,.c (.gs 0 0)),(23,.c (.int .i64 5)),(24,.c (.int .i64 (k:Nat)))] [gG 5 (sw 4 1),gq 5 (xr M 4 1 k 0),gq 5 (xr M 4 1 k 1),gq 5 (xr M 4 1 k 2),gq 5 (xr M 4 1 k 3),gq 5 (xr M 4 1 k 4)]) (fun k=>5-k) (fun k=>k≤5) 0 (Weak.refl _) (by decide) fun k hk=>?_)
 rcases(show k=0∨k=1∨k=2∨k=3∨k=4∨k=5 by omega)with rfl | rfl | rfl | rfl | rfl | rfl
 ·refine so ?_
  conv=>whnf
  repeat (refine⟨by first | decide | exact ixl rfl,?_⟩;conv=>whnf)
  refine⟨i64_range (by decide) (by decide),?_⟩
  conv=>whnf
  exact⟨1,by decide,Weak.genT [some 0,some 1,some 2,some 3,some 4,some 5] rfl rfl ⟨_,rfl,rfl,by decide⟩ ⟨⟨_,rfl,rfl,rfl,rfl,rfl,cells5 ⟨_,rfl,rfl,rfl⟩ ⟨_,rfl,rfl,rfl⟩ ⟨_,rfl,rfl,rfl⟩ ⟨_,rfl,rfl,rfl⟩ ⟨_,rfl,rfl,rfl⟩⟩,⟨_,rfl,rfl,rfl,rfl,rfl,fun x y _ hy=>row_upd2 hy (xr_step M (by decide) rfl x)⟩,rk rfl fun x _=>xr_keep M (by decide) x,rk rfl fun x _=>xr_keep M (by decide) x,rk rfl fun x _=>xr_keep M (by decide) x,rk rfl fun x _=>xr_keep M (by decide) x,trivial⟩ ⟨⟨_,rfl,rfl⟩,⟨_,rfl,rfl⟩,⟨_,rfl,rfl,rfl⟩,⟨_,rfl,rfl⟩,⟨_,rfl,rfl⟩,trivial⟩,by decide⟩
 ·refine so ?_
  conv=>whnf
  repeat (refine⟨by first | decide | exact ixl rfl,?_⟩;conv=>whnf)
  refine⟨i64_range (by decide) (by decide),?_⟩
  conv=>whnf
  exact⟨2,by decide,Weak.genT [some 0,some 1,some 2,some 3,some 4,some 5] rfl rfl ⟨_,rfl,rfl,by decide⟩ ⟨⟨_,rfl,rfl,rfl,rfl,rfl,cells5 ⟨_,rfl,rfl,rfl⟩ ⟨_,rfl,rfl,rfl⟩ ⟨_,rfl,rfl,rfl⟩ ⟨_,rfl,rfl,rfl⟩ ⟨_,rfl,rfl,rfl⟩⟩,rk rfl fun x _=>xr_keep M (by decide) x,rk rfl fun x _=>xr_keep M (by decide) x,rk rfl fun x _=>xr_keep M (by decide) x,rk rfl fun x _=>xr_keep M (by decide) x,⟨_,rfl,rfl,rfl,rfl,rfl,fun x y _ hy=>row_upd2 hy (xr_step M (by decide) rfl x)⟩,trivial⟩ ⟨⟨_,rfl,rfl⟩,⟨_,rfl,rfl⟩,⟨_,rfl,rfl,rfl⟩,⟨_,rfl,rfl⟩,⟨_,rfl,rfl⟩,trivial⟩,by decide⟩
 ·refine so ?_
  conv=>whnf
  repeat (refine⟨by first | decide | exact ixl rfl,?_⟩;conv=>whnf)
  refine⟨i64_range (by decide) (by decide),?_⟩
  conv=>whnf
  exact⟨3,by decide,Weak.genT [some 0,some 1,some 2,some 3,some 4,some 5] rfl rfl ⟨_,rfl,rfl,by decide⟩ ⟨⟨_,rfl,rfl,rfl,rfl,rfl,cells5 ⟨_,rfl,rfl,rfl⟩ ⟨_,rfl,rfl,rfl⟩ ⟨_,rfl,rfl,rfl⟩ ⟨_,rfl,rfl,rfl⟩ ⟨_,rfl,rfl,rfl⟩⟩,rk rfl fun x _=>xr_keep M (by decide) x,rk rfl fun x _=>xr_keep M (by decide) x,⟨_,rfl,rfl,rfl,rfl,rfl,fun x y _ hy=>row_upd2 hy (xr_step M (by decide) rfl x)⟩,rk rfl fun x _=>xr_keep M (by decide) x,rk rfl fun x _=>xr_keep M (by decide) x,trivial⟩ ⟨⟨_,rfl,rfl⟩,⟨_,rfl,rfl⟩,⟨_,rfl,rfl,rfl⟩,⟨_,rfl,rfl⟩,⟨_,rfl,rfl⟩,trivial⟩,by decide⟩
 ·refine so ?_
  conv=>whnf
  repeat (refine⟨by first | decide | exact ixl rfl,?_⟩;conv=>whnf)
  refine⟨i64_range (by decide) (by decide),?_⟩
  conv=>whnf
  exact⟨4,by decide,Weak.genT [some 0,some 1,some 2,some 3,some 4,some 5] rfl rfl ⟨_,rfl,rfl,by decide⟩ ⟨⟨_,rfl,rfl,rfl,rfl,rfl,cells5 ⟨_,rfl,rfl,rfl⟩ ⟨_,rfl,rfl,rfl⟩ ⟨_,rfl,rfl,rfl⟩ ⟨_,rfl,rfl,rfl⟩ ⟨_,rfl,rfl,rfl⟩⟩,rk rfl fun x _=>xr_keep M (by decide) x,rk rfl fun x _=>xr_keep M (by decide) x,rk rfl fun x _=>xr_keep M (by decide) x,⟨_,rfl,rfl,rfl,rfl,rfl,fun x y _ hy=>row_upd2 hy (xr_step M (by decide) rfl x)⟩,rk rfl fun x _=>xr_keep M (by decide) x,trivial⟩ ⟨⟨_,rfl,rfl⟩,⟨_,rfl,rfl⟩,⟨_,rfl,rfl,rfl⟩,⟨_,rfl,rfl⟩,⟨_,rfl,rfl⟩,trivial⟩,by decide⟩
 ·refine so ?_
  conv=>whnf
  repeat (refine⟨by first | decide | exact ixl rfl,?_⟩;conv=>whnf)
  refine⟨i64_range (by decide) (by decide),?_⟩
  conv=>whnf
  exact⟨5,by decide,Weak.genT [some 0,some 1,some 2,some 3,some 4,some 5] rfl rfl ⟨_,rfl,rfl,by decide⟩ ⟨⟨_,rfl,rfl,rfl,rfl,rfl,cells5 ⟨_,rfl,rfl,rfl⟩ ⟨_,rfl,rfl,rfl⟩ ⟨_,rfl,rfl,rfl⟩ ⟨_,rfl,rfl,rfl⟩ ⟨_,rfl,rfl,rfl⟩⟩,rk rfl fun x _=>xr_keep M (by decide) x,⟨_,rfl,rfl,rfl,rfl,rfl,fun x y _ hy=>row_upd2 hy (xr_step M (by decide) rfl x)⟩,rk rfl fun x _=>xr_keep M (by decide) x,rk rfl fun x _=>xr_keep M (by decide) x,rk rfl fun x _=>xr_keep M (by decide) x,trivial⟩ ⟨⟨_,rfl,rfl⟩,⟨_,rfl,rfl⟩,⟨_,rfl,rfl,rfl⟩,⟨_,rfl,rfl⟩,⟨_,rfl,rfl⟩,trivial⟩,by decide⟩
 ·refine so ?_
  conv=>whnf
  exact Weak.genT (tl:=[(0,.c .any)]) (xs:=[gG 5 idn,gq 5 (xch (sw 4 1) M 0),gq 5 (xch (sw 4 1) M 1),gq 5 (xch (sw 4 1) M 2),gq 5 (xch (sw 4 1) M 3),gq 5 (xch (sw 4 1) M 4)]) [some 0,some 1,some 5,some 3,some 4,some 2] rfl rfl ⟨_,rfl,rfl,by decide⟩ ⟨⟨_,rfl,rfl,rfl,rfl,rfl,cells5 ⟨_,rfl,rfl,rfl⟩ ⟨_,rfl,rfl,rfl⟩ ⟨_,rfl,rfl,rfl⟩ ⟨_,rfl,rfl,rfl⟩ ⟨_,rfl,rfl,rfl⟩⟩,rk rfl fun x _=>xr_all M (by decide) x,rk rfl fun x _=>xr_all M (by decide) x,rk rfl fun x _=>xr_all M (by decide) x,rk rfl fun x _=>xr_all M (by decide) x,rk rfl fun x _=>xr_all M (by decide) x,trivial⟩ ⟨⟨rfl,rfl⟩,trivial⟩
set_option maxHeartbeats 8000000 in
theorem exch_5_3_2 (M:Nat->Nat->Rat):FnT Tryz.prog true 92 1 ([gG 5 idn,gq 5 (M 0),gq 5 (M 1),gq 5 (M 2),gq 5 (M 3),gq 5 (M 4)].map gb) [.c (.gs 0 0),.c (.int .i64 3),.c (.int .i64 2)] (.c .any) ([gG 5 idn,gq 5 (xch (sw 3 2) M 0),gq 5 (xch (sw 3 2) M 1),gq 5 (xch (sw 3 2) M 2),gq 5 (xch (sw 3 2) M 3),gq 5 (xch (sw 3 2) M 4)].map gb):=by
 refine fnt_okS (E:=E1m) E1m_ok Tryz.func92 rfl (by kernel_rfl) ?_
 refine sq ?_
 conv=>whnf
 repeat (refine⟨by decide,by decide,?_⟩;conv=>whnf)
 refine⟨gst [(0,.c (.gs 0 0)),(1,.c (.int .i64 3)),(2,.c (.int .i64 2))] [gG 5 (sw 3 2),gq 5 (M 0),gq 5 (M 1),gq 5 (M 2),gq 5 (M 3),gq 5 (M 4)],Weak.genT [some 0,some 1,some 2,some 3,some 4,some 5] rfl rfl ⟨_,rfl,rfl,by decide⟩ ⟨⟨_,rfl,rfl,rfl,rfl,rfl,cells5 ⟨_,rfl,rfl,rfl⟩ ⟨_,rfl,rfl,rfl⟩ ⟨_,rfl,rfl,rfl⟩ ⟨_,rfl,rfl,rfl⟩ ⟨_,rfl,rfl,rfl⟩⟩,rs rfl,rs rfl,rs rfl,rs rfl,rs rfl,trivial⟩ ⟨⟨_,rfl,rfl,rfl⟩,⟨_,rfl,rfl⟩,⟨_,rfl,rfl⟩,trivial⟩,?_⟩
 refine sq ?_
 conv=>whnf
 refine⟨(fun k:Nat=>gst [(1,.c (.int .i64 3)),(2,.c (.int .i64 2)),(22,.c (.gs 0 0)),(23,.c (.int .i64 5)),(24,.c (.int .i64 (k:Nat)))] [gG 5 (sw 3 2),gq 5 (xr M 3 2 k 0),gq 5 (xr M 3 2 k 1),gq 5 (xr M 3 2 k 2),gq 5 (xr M 3 2 k 3),gq 5 (xr M 3 2 k 4)]) 0,Weak.genT [some 0,some 1,some 2,some 3,some 4,some 5] rfl rfl ⟨_,rfl,rfl,by decide⟩ ⟨⟨_,rfl,rfl,rfl,rfl,rfl,cells5 ⟨_,rfl,rfl,rfl⟩ ⟨_,rfl,rfl,rfl⟩ ⟨_,rfl,rfl,rfl⟩ ⟨_,rfl,rfl,rfl⟩ ⟨_,rfl,rfl,rfl⟩⟩,rk rfl fun x _=>xr_zero M 3 2 0 x,rk rfl fun x _=>xr_zero M 3 2 1 x,rk rfl fun x _=>xr_zero M 3 2 2 x,rk rfl fun x _=>xr_zero M 3 2 3 x,rk rfl fun x _=>xr_zero M 3 2 4 x,trivial⟩ ⟨⟨_,rfl,rfl⟩,⟨_,rfl,rfl⟩,⟨_,rfl,rfl,rfl⟩,⟨_,rfl,rfl⟩,⟨_,rfl,rfl⟩,trivial⟩,?_⟩
 refine swp_block (swp_loop (fun k:Nat=>gst [(1,.c (.int .i64 3)),(2,.c (.int .i64 2)),(22,.c (.gs 0 0)),(23,.c (.int .i64 5)),(24,.c (.int .i64 (k:Nat)))] [gG 5 (sw 3 2),gq 5 (xr M 3 2 k 0),gq 5 (xr M 3 2 k 1),gq 5 (xr M 3 2 k 2),gq 5 (xr M 3 2 k 3),gq 5 (xr M 3 2 k 4)]) (fun k=>5-k) (fun k=>k≤5) 0 (Weak.refl _) (by decide) fun k hk=>?_)
 rcases(show k=0∨k=1∨k=2∨k=3∨k=4∨k=5 by omega)with rfl | rfl | rfl | rfl | rfl | rfl
 ·refine so ?_
  conv=>whnf
  repeat (refine⟨by first | decide | exact ixl rfl,?_⟩;conv=>whnf)
  refine⟨i64_range (by decide) (by decide),?_⟩
  conv=>whnf
  exact⟨1,by decide,Weak.genT [some 0,some 1,some 2,some 3,some 4,some 5] rfl rfl ⟨_,rfl,rfl,by decide⟩ ⟨⟨_,rfl,rfl,rfl,rfl,rfl,cells5 ⟨_,rfl,rfl,rfl⟩ ⟨_,rfl,rfl,rfl⟩ ⟨_,rfl,rfl,rfl⟩ ⟨_,rfl,rfl,rfl⟩ ⟨_,rfl,rfl,rfl⟩⟩,⟨_,rfl,rfl,rfl,rfl,rfl,fun x y _ hy=>row_upd2 hy (xr_step M (by decide) rfl x)⟩,rk rfl fun x _=>xr_keep M (by decide) x,rk rfl fun x _=>xr_keep M (by decide) x,rk rfl fun x _=>xr_keep M (by decide) x,rk rfl fun x _=>xr_keep M (by decide) x,trivial⟩ ⟨⟨_,rfl,rfl⟩,⟨_,rfl,rfl⟩,⟨_,rfl,rfl,rfl⟩,⟨_,rfl,rfl⟩,⟨_,rfl,rfl⟩,trivial⟩,by decide⟩
 ·refine so ?_
  conv=>whnf
  repeat (refine⟨by first | decide | exact ixl rfl,?_⟩;conv=>whnf)
  refine⟨i64_range (by decide) (by decide),?_⟩
  conv=>whnf
  exact⟨2,by decide,Weak.genT [some 0,some 1,some 2,some 3,some 4,some 5] rfl rfl ⟨_,rfl,rfl,by decide⟩ ⟨⟨_,rfl,rfl,rfl,rfl,rfl,cells5 ⟨_,rfl,rfl,rfl⟩ ⟨_,rfl,rfl,rfl⟩ ⟨_,rfl,rfl,rfl⟩ ⟨_,rfl,rfl,rfl⟩ ⟨_,rfl,rfl,rfl⟩⟩,rk rfl fun x _=>xr_keep M (by decide) x,⟨_,rfl,rfl,rfl,rfl,rfl,fun x y _ hy=>row_upd2 hy (xr_step M (by decide) rfl x)⟩,rk rfl fun x _=>xr_keep M (by decide) x,rk rfl fun x _=>xr_keep M (by decide) x,rk rfl fun x _=>xr_keep M (by decide) x,trivial⟩ ⟨⟨_,rfl,rfl⟩,⟨_,rfl,rfl⟩,⟨_,rfl,rfl,rfl⟩,⟨_,rfl,rfl⟩,⟨_,rfl,rfl⟩,trivial⟩,by decide⟩
 ·refine so ?_
  conv=>whnf
  repeat (refine⟨by first | decide | exact ixl rfl,?_⟩;conv=>whnf)
  refine⟨i64_range (by decide) (by decide),?_⟩
  conv=>whnf
  exact⟨3,by decide,Weak.genT [some 0,some 1,some 2,some 3,some 4,some 5] rfl rfl ⟨_,rfl,rfl,by decide⟩ ⟨⟨_,rfl,rfl,rfl,rfl,rfl,cells5 ⟨_,rfl,rfl,rfl⟩ ⟨_,rfl,rfl,rfl⟩ ⟨_,rfl,rfl,rfl⟩ ⟨_,rfl,rfl,rfl⟩ ⟨_,rfl,rfl,rfl⟩⟩,rk rfl fun x _=>xr_keep M (by decide) x,rk rfl fun x _=>xr_keep M (by decide) x,rk rfl fun x _=>xr_keep M (by decide) x,⟨_,rfl,rfl,rfl,rfl,rfl,fun x y _ hy=>row_upd2 hy (xr_step M (by decide) rfl x)⟩,rk rfl fun x _=>xr_keep M (by decide) x,trivial⟩ ⟨⟨_,rfl,rfl⟩,⟨_,rfl,rfl⟩,⟨_,rfl,rfl,rfl⟩,⟨_,rfl,rfl⟩,⟨_,rfl,rfl⟩,trivial⟩,by decide⟩
 ·refine so ?_
  conv=>whnf
  repeat (refine⟨by first | decide | exact ixl rfl,?_⟩;conv=>whnf)
  refine⟨i64_range (by decide) (by decide),?_⟩
  conv=>whnf
  exact⟨4,by decide,Weak.genT [some 0,some 1,some 2,some 3,some 4,some 5] rfl rfl ⟨_,rfl,rfl,by decide⟩ ⟨⟨_,rfl,rfl,rfl,rfl,rfl,cells5 ⟨_,rfl,rfl,rfl⟩ ⟨_,rfl,rfl,rfl⟩ ⟨_,rfl,rfl,rfl⟩ ⟨_,rfl,rfl,rfl⟩ ⟨_,rfl,rfl,rfl⟩⟩,rk rfl fun x _=>xr_keep M (by decide) x,rk rfl fun x _=>xr_keep M (by decide) x,⟨_,rfl,rfl,rfl,rfl,rfl,fun x y _ hy=>row_upd2 hy (xr_step M (by decide) rfl x)⟩,rk rfl fun x _=>xr_keep M (by decide) x,rk rfl fun x _=>xr_keep M (by decide) x,trivial⟩ ⟨⟨_,rfl,rfl⟩,⟨_,rfl,rfl⟩,⟨_,rfl,rfl,rfl⟩,⟨_,rfl,rfl⟩,⟨_,rfl,rfl⟩,trivial⟩,by decide⟩
 ·refine so ?_
  conv=>whnf
  repeat (refine⟨by first | decide | exact ixl rfl,?_⟩;conv=>whnf)
  refine⟨i64_range (by decide) (by decide),?_⟩
  conv=>whnf
  exact⟨5,by decide,Weak.genT [some 0,some 1,some 2,some 3,some 4,some 5] rfl rfl ⟨_,rfl,rfl,by decide⟩ ⟨⟨_,rfl,rfl,rfl,rfl,rfl,cells5 ⟨_,rfl,rfl,rfl⟩ ⟨_,rfl,rfl,rfl⟩ ⟨_,rfl,rfl,rfl⟩ ⟨_,rfl,rfl,rfl⟩ ⟨_,rfl,rfl,rfl⟩⟩,rk rfl fun x _=>xr_keep M (by decide) x,rk rfl fun x _=>xr_keep M (by decide) x,rk rfl fun x _=>xr_keep M (by decide) x,rk rfl fun x _=>xr_keep M (by decide) x,⟨_,rfl,rfl,rfl,rfl,rfl,fun x y _ hy=>row_upd2 hy (xr_step M (by decide) rfl x)⟩,trivial⟩ ⟨⟨_,rfl,rfl⟩,⟨_,rfl,rfl⟩,⟨_,rfl,rfl,rfl⟩,⟨_,rfl,rfl⟩,⟨_,rfl,rfl⟩,trivial⟩,by decide⟩
 ·refine so ?_
  conv=>whnf
  exact Weak.genT (tl:=[(0,.c .any)]) (xs:=[gG 5 idn,gq 5 (xch (sw 3 2) M 0),gq 5 (xch (sw 3 2) M 1),gq 5 (xch (sw 3 2) M 2),gq 5 (xch (sw 3 2) M 3),gq 5 (xch (sw 3 2) M 4)]) [some 0,some 1,some 2,some 4,some 3,some 5] rfl rfl ⟨_,rfl,rfl,by decide⟩ ⟨⟨_,rfl,rfl,rfl,rfl,rfl,cells5 ⟨_,rfl,rfl,rfl⟩ ⟨_,rfl,rfl,rfl⟩ ⟨_,rfl,rfl,rfl⟩ ⟨_,rfl,rfl,rfl⟩ ⟨_,rfl,rfl,rfl⟩⟩,rk rfl fun x _=>xr_all M (by decide) x,rk rfl fun x _=>xr_all M (by decide) x,rk rfl fun x _=>xr_all M (by decide) x,rk rfl fun x _=>xr_all M (by decide) x,rk rfl fun x _=>xr_all M (by decide) x,trivial⟩ ⟨⟨rfl,rfl⟩,trivial⟩
set_option maxHeartbeats 8000000 in
theorem exch_5_4_2 (M:Nat->Nat->Rat):FnT Tryz.prog true 92 1 ([gG 5 idn,gq 5 (M 0),gq 5 (M 1),gq 5 (M 2),gq 5 (M 3),gq 5 (M 4)].map gb) [.c (.gs 0 0),.c (.int .i64 4),.c (.int .i64 2)] (.c .any) ([gG 5 idn,gq 5 (xch (sw 4 2) M 0),gq 5 (xch (sw 4 2) M 1),gq 5 (xch (sw 4 2) M 2),gq 5 (xch (sw 4 2) M 3),gq 5 (xch (sw 4 2) M 4)].map gb):=by
 refine fnt_okS (E:=E1m) E1m_ok Tryz.func92 rfl (by kernel_rfl) ?_
 refine sq ?_
 conv=>whnf
 repeat (refine⟨by decide,by decide,?_⟩;conv=>whnf)
 refine⟨gst [(0,.c (.gs 0 0)),(1,.c (.int .i64 4)),(2,.c (.int .i64 2))] [gG 5 (sw 4 2),gq 5 (M 0),gq 5 (M 1),gq 5 (M 2),gq 5 (M 3),gq 5 (M 4)],Weak.genT [some 0,some 1,some 2,some 3,some 4,some 5] rfl rfl ⟨_,rfl,rfl,by decide⟩ ⟨⟨_,rfl,rfl,rfl,rfl,rfl,cells5 ⟨_,rfl,rfl,rfl⟩ ⟨_,rfl,rfl,rfl⟩ ⟨_,rfl,rfl,rfl⟩ ⟨_,rfl,rfl,rfl⟩ ⟨_,rfl,rfl,rfl⟩⟩,rs rfl,rs rfl,rs rfl,rs rfl,rs rfl,trivial⟩ ⟨⟨_,rfl,rfl,rfl⟩,⟨_,rfl,rfl⟩,⟨_,rfl,rfl⟩,trivial⟩,?_⟩
 refine sq ?_
 conv=>whnf
 refine⟨(fun k:Nat=>gst [(1,.c (.int .i64 4)),(2,.c (.int .i64 2)),(22,.c (.gs 0 0)),(23,.c (.int .i64 5)),(24,.c (.int .i64 (k:Nat)))] [gG 5 (sw 4 2),gq 5 (xr M 4 2 k 0),gq 5 (xr M 4 2 k 1),gq 5 (xr M 4 2 k 2),gq 5 (xr M 4 2 k 3),gq 5 (xr M 4 2 k 4)]) 0,Weak.genT [some 0,some 1,some 2,some 3,some 4,some 5] rfl rfl ⟨_,rfl,rfl,by decide⟩ ⟨⟨_,rfl,rfl,rfl,rfl,rfl,cells5 ⟨_,rfl,rfl,rfl⟩ ⟨_,rfl,rfl,rfl⟩ ⟨_,rfl,rfl,rfl⟩ ⟨_,rfl,rfl,rfl⟩ ⟨_,rfl,rfl,rfl⟩⟩,rk rfl fun x _=>xr_zero M 4 2 0 x,rk rfl fun x _=>xr_zero M 4 2 1 x,rk rfl fun x _=>xr_zero M 4 2 2 x,rk rfl fun x _=>xr_zero M 4 2 3 x,rk rfl fun x _=>xr_zero M 4 2 4 x,trivial⟩ ⟨⟨_,rfl,rfl⟩,⟨_,rfl,rfl⟩,⟨_,rfl,rfl,rfl⟩,⟨_,rfl,rfl⟩,⟨_,rfl,rfl⟩,trivial⟩,?_⟩
 refine swp_block (swp_loop (fun k:Nat=>gst [(1,.c (.int .i64 4)),(2,.c (.int .i64 2)),(22,.c (.gs 0 0)),(23,.c (.int .i64 5)),(24,.c (.int .i64 (k:Nat)))] [gG 5 (sw 4 2),gq 5 (xr M 4 2 k 0),gq 5 (xr M 4 2 k 1),gq 5 (xr M 4 2 k 2),gq 5 (xr M 4 2 k 3),gq 5 (xr M 4 2 k 4)]) (fun k=>5-k) (fun k=>k≤5) 0 (Weak.refl _) (by decide) fun k hk=>?_)
 rcases(show k=0∨k=1∨k=2∨k=3∨k=4∨k=5 by omega)with rfl | rfl | rfl | rfl | rfl | rfl
 ·refine so ?_
  conv=>whnf
  repeat (refine⟨by first | decide | exact ixl rfl,?_⟩;conv=>whnf)
  refine⟨i64_range (by decide) (by decide),?_⟩
  conv=>whnf
  exact⟨1,by decide,Weak.genT [some 0,some 1,some 2,some 3,some 4,some 5] rfl rfl ⟨_,rfl,rfl,by decide⟩ ⟨⟨_,rfl,rfl,rfl,rfl,rfl,cells5 ⟨_,rfl,rfl,rfl⟩ ⟨_,rfl,rfl,rfl⟩ ⟨_,rfl,rfl,rfl⟩ ⟨_,rfl,rfl,rfl⟩ ⟨_,rfl,rfl,rfl⟩⟩,⟨_,rfl,rfl,rfl,rfl,rfl,fun x y _ hy=>row_upd2 hy (xr_step M (by decide) rfl x)⟩,rk rfl fun x _=>xr_keep M (by decide) x,rk rfl fun x _=>xr_keep M (by decide) x,rk rfl fun x _=>xr_keep M (by decide) x,rk rfl fun x _=>xr_keep M (by decide) x,trivial⟩ ⟨⟨_,rfl,rfl⟩,⟨_,rfl,rfl⟩,⟨_,rfl,rfl,rfl⟩,⟨_,rfl,rfl⟩,⟨_,rfl,rfl⟩,trivial⟩,by decide⟩
 ·refine so ?_
  conv=>whnf
  repeat (refine⟨by first | decide | exact ixl rfl,?_⟩;conv=>whnf)
  refine⟨i64_range (by decide) (by decide),?_⟩
  conv=>whnf
  exact⟨2,by decide,Weak.genT [some 0,some 1,some 2,some 3,some 4,some 5] rfl rfl ⟨_,rfl,rfl,by decide⟩ ⟨⟨_,rfl,rfl,rfl,rfl,rfl,cells5 ⟨_,rfl,rfl,rfl⟩ ⟨_,rfl,rfl,rfl⟩ ⟨_,rfl,rfl,rfl⟩ ⟨_,rfl,rfl,rfl⟩ ⟨_,rfl,rfl,rfl⟩⟩,rk rfl fun x _=>xr_keep M (by decide) x,⟨_,rfl,rfl,rfl,rfl,rfl,fun x y _ hy=>row_upd2 hy (xr_step M (by decide) rfl x)⟩,rk rfl fun x _=>xr_keep M (by decide) x,rk rfl fun x _=>xr_keep M (by decide) x,rk rfl fun x _=>xr_keep M (by decide) x,trivial⟩ ⟨⟨_,rfl,rfl⟩,⟨_,rfl,rfl⟩,⟨_,rfl,rfl,rfl⟩,⟨_,rfl,rfl⟩,⟨_,rfl,rfl⟩,trivial⟩,by decide⟩
 ·refine so ?_
  conv=>whnf
  repeat (refine⟨by first | decide | exact ixl rfl,?_⟩;conv=>whnf)
  refine⟨i64_range (by decide) (by decide),?_⟩
  conv=>whnf
  exact⟨3,by decide,Weak.genT [some 0,some 1,some 2,some 3,some 4,some 5] rfl rfl ⟨_,rfl,rfl,by decide⟩ ⟨⟨_,rfl,rfl,rfl,rfl,rfl,cells5 ⟨_,rfl,rfl,rfl⟩ ⟨_,rfl,rfl,rfl⟩ ⟨_,rfl,rfl,rfl⟩ ⟨_,rfl,rfl,rfl⟩ ⟨_,rfl,rfl,rfl⟩⟩,rk rfl fun x _=>xr_keep M (by decide) x,rk rfl fun x _=>xr_keep M (by decide) x,rk rfl fun x _=>xr_keep M (by decide) x,rk rfl fun x _=>xr_keep M (by decide) x,⟨_,rfl,rfl,rfl,rfl,rfl,fun x y _ hy=>row_upd2 hy (xr_step M (by decide) rfl x)⟩,trivial⟩ ⟨⟨_,rfl,rfl⟩,⟨_,rfl,rfl⟩,⟨_,rfl,rfl,rfl⟩,⟨_,rfl,rfl⟩,⟨_,rfl,rfl⟩,trivial⟩,by decide⟩
 ·refine so ?_
  conv=>whnf
  repeat (refine⟨by first | decide | exact ixl rfl,?_⟩;conv=>whnf)
  refine⟨i64_range (by decide) (by decide),?_⟩
  conv=>whnf
  exact⟨4,by decide,Weak.genT [some 0,some 1,some 2,some 3,some 4,some 5] rfl rfl ⟨_,rfl,rfl,by decide⟩ ⟨⟨_,rfl,rfl,rfl,rfl,rfl,cells5 ⟨_,rfl,rfl,rfl⟩ ⟨_,rfl,rfl,rfl⟩ ⟨_,rfl,rfl,rfl⟩ ⟨_,rfl,rfl,rfl⟩ ⟨_,rfl,rfl,rfl⟩⟩,rk rfl fun x _=>xr_keep M (by decide) x,rk rfl fun x _=>xr_keep M (by decide) x,rk rfl fun x _=>xr_keep M (by decide) x,⟨_,rfl,rfl,rfl,rfl,rfl,fun x y _ hy=>row_upd2 hy (xr_step M (by decide) rfl x)⟩,rk rfl fun x _=>xr_keep M (by decide) x,trivial⟩ ⟨⟨_,rfl,rfl⟩,⟨_,rfl,rfl⟩,⟨_,rfl,rfl,rfl⟩,⟨_,rfl,rfl⟩,⟨_,rfl,rfl⟩,trivial⟩,by decide⟩
 ·refine so ?_
  conv=>whnf
  repeat (refine⟨by first | decide | exact ixl rfl,?_⟩;conv=>whnf)
  refine⟨i64_range (by decide) (by decide),?_⟩
  conv=>whnf
  exact⟨5,by decide,Weak.genT [some 0,some 1,some 2,some 3,some 4,some 5] rfl rfl ⟨_,rfl,rfl,by decide⟩ ⟨⟨_,rfl,rfl,rfl,rfl,rfl,cells5 ⟨_,rfl,rfl,rfl⟩ ⟨_,rfl,rfl,rfl⟩ ⟨_,rfl,rfl,rfl⟩ ⟨_,rfl,rfl,rfl⟩ ⟨_,rfl,rfl,rfl⟩⟩,rk rfl fun x _=>xr_keep M (by decide) x,rk rfl fun x _=>xr_keep M (by decide) x,⟨_,rfl,rfl,rfl,rfl,rfl,fun x y _ hy=>row_upd2 hy (xr_step M (by decide) rfl x)⟩,rk rfl fun x _=>xr_keep M (by decide) x,rk rfl fun x _=>xr_keep M (by decide) x,trivial⟩ ⟨⟨_,rfl,rfl⟩,⟨_,rfl,rfl⟩,⟨_,rfl,rfl,rfl⟩,⟨_,rfl,rfl⟩,⟨_,rfl,rfl⟩,trivial⟩,by decide⟩
 ·refine so ?_
  conv=>whnf
  exact Weak.genT (tl:=[(0,.c .any)]) (xs:=[gG 5 idn,gq 5 (xch (sw 4 2) M 0),gq 5 (xch (sw 4 2) M 1),gq 5 (xch (sw 4 2) M 2),gq 5 (xch (sw 4 2) M 3),gq 5 (xch (sw 4 2) M 4)]) [some 0,some 1,some 2,some 5,some 4,some 3] rfl rfl ⟨_,rfl,rfl,by decide⟩ ⟨⟨_,rfl,rfl,rfl,rfl,rfl,cells5 ⟨_,rfl,rfl,rfl⟩ ⟨_,rfl,rfl,rfl⟩ ⟨_,rfl,rfl,rfl⟩ ⟨_,rfl,rfl,rfl⟩ ⟨_,rfl,rfl,rfl⟩⟩,rk rfl fun x _=>xr_all M (by decide) x,rk rfl fun x _=>xr_all M (by decide) x,rk rfl fun x _=>xr_all M (by decide) x,rk rfl fun x _=>xr_all M (by decide) x,rk rfl fun x _=>xr_all M (by decide) x,trivial⟩ ⟨⟨rfl,rfl⟩,trivial⟩
set_option maxHeartbeats 8000000 in
theorem exch_5_4_3 (M:Nat->Nat->Rat):FnT Tryz.prog true 92 1 ([gG 5 idn,gq 5 (M 0),gq 5 (M 1),gq 5 (M 2),gq 5 (M 3),gq 5 (M 4)].map gb) [.c (.gs 0 0),.c (.int .i64 4),.c (.int .i64 3)] (.c .any) ([gG 5 idn,gq 5 (xch (sw 4 3) M 0),gq 5 (xch (sw 4 3) M 1),gq 5 (xch (sw 4 3) M 2),gq 5 (xch (sw 4 3) M 3),gq 5 (xch (sw 4 3) M 4)].map gb):=by
 refine fnt_okS (E:=E1m) E1m_ok Tryz.func92 rfl (by kernel_rfl) ?_
 refine sq ?_
 conv=>whnf
 repeat (refine⟨by decide,by decide,?_⟩;conv=>whnf)
 refine⟨gst [(0,.c (.gs 0 0)),(1,.c (.int .i64 4)),(2,.c (.int .i64 3))] [gG 5 (sw 4 3),gq 5 (M 0),gq 5 (M 1),gq 5 (M 2),gq 5 (M 3),gq 5 (M 4)],Weak.genT [some 0,some 1,some 2,some 3,some 4,some 5] rfl rfl ⟨_,rfl,rfl,by decide⟩ ⟨⟨_,rfl,rfl,rfl,rfl,rfl,cells5 ⟨_,rfl,rfl,rfl⟩ ⟨_,rfl,rfl,rfl⟩ ⟨_,rfl,rfl,rfl⟩ ⟨_,rfl,rfl,rfl⟩ ⟨_,rfl,rfl,rfl⟩⟩,rs rfl,rs rfl,rs rfl,rs rfl,rs rfl,trivial⟩ ⟨⟨_,rfl,rfl,rfl⟩,⟨_,rfl,rfl⟩,⟨_,rfl,rfl⟩,trivial⟩,?_⟩
 refine sq ?_
 conv=>whnf
 refine⟨(fun k:Nat=>gst [(1,.c (.int .i64 4)),(2,.c (.int .i64 3)),(22,.c (.gs 0 0)),(23,.c (.int .i64 5)),(24,.c (.int .i64 (k:Nat)))] [gG 5 (sw 4 3),gq 5 (xr M 4 3 k 0),gq 5 (xr M 4 3 k 1),gq 5 (xr M 4 3 k 2),gq 5 (xr M 4 3 k 3),gq 5 (xr M 4 3 k 4)]) 0,Weak.genT [some 0,some 1,some 2,some 3,some 4,some 5] rfl rfl ⟨_,rfl,rfl,by decide⟩ ⟨⟨_,rfl,rfl,rfl,rfl,rfl,cells5 ⟨_,rfl,rfl,rfl⟩ ⟨_,rfl,rfl,rfl⟩ ⟨_,rfl,rfl,rfl⟩ ⟨_,rfl,rfl,rfl⟩ ⟨_,rfl,rfl,rfl⟩⟩,rk rfl fun x _=>xr_zero M 4 3 0 x,rk rfl fun x _=>xr_zero M 4 3 1 x,rk rfl fun x _=>xr_zero M 4 3 2 x,rk rfl fun x _=>xr_zero M 4 3 3 x,rk rfl fun x _=>xr_zero M 4 3 4 x,trivial⟩ ⟨⟨_,rfl,rfl⟩,⟨_,rfl,rfl⟩,⟨_,rfl,rfl,rfl⟩,⟨_,rfl,rfl⟩,⟨_,rfl,rfl⟩,trivial⟩,?_⟩
 refine swp_block (swp_loop (fun k:Nat=>gst [(1,.c (.int .i64 4)),(2,.c (.int .i64 3)),(22,.c (.gs 0 0)),(23,.c (.int .i64 5)),(24,.c (.int .i64 (k:Nat)))] [gG 5 (sw 4 3),gq 5 (xr M 4 3 k 0),gq 5 (xr M 4 3 k 1),gq 5 (xr M 4 3 k 2),gq 5 (xr M 4 3 k 3),gq 5 (xr M 4 3 k 4)]) (fun k=>5-k) (fun k=>k≤5) 0 (Weak.refl _) (by decide) fun k hk=>?_)
 rcases(show k=0∨k=1∨k=2∨k=3∨k=4∨k=5 by omega)with rfl | rfl | rfl | rfl | rfl | rfl
 ·refine so ?_
  conv=>whnf
  repeat (refine⟨by first | decide | exact ixl rfl,?_⟩;conv=>whnf)
  refine⟨i64_range (by decide) (by decide),?_⟩
  conv=>whnf
  exact⟨1,by decide,Weak.genT [some 0,some 1,some 2,some 3,some 4,some 5] rfl rfl ⟨_,rfl,rfl,by decide⟩ ⟨⟨_,rfl,rfl,rfl,rfl,rfl,cells5 ⟨_,rfl,rfl,rfl⟩ ⟨_,rfl,rfl,rfl⟩ ⟨_,rfl,rfl,rfl⟩ ⟨_,rfl,rfl,rfl⟩ ⟨_,rfl,rfl,rfl⟩⟩,⟨_,rfl,rfl,rfl,rfl,rfl,fun x y _ hy=>row_upd2 hy (xr_step M (by decide) rfl x)⟩,rk rfl fun x _=>xr_keep M (by decide) x,rk rfl fun x _=>xr_keep M (by decide) x,rk rfl fun x _=>xr_keep M (by decide) x,rk rfl fun x _=>xr_keep M (by decide) x,trivial⟩ ⟨⟨_,rfl,rfl⟩,⟨_,rfl,rfl⟩,⟨_,rfl,rfl,rfl⟩,⟨_,rfl,rfl⟩,⟨_,rfl,rfl⟩,trivial⟩,by decide⟩
 ·refine so ?_
  conv=>whnf
  repeat (refine⟨by first | decide | exact ixl rfl,?_⟩;conv=>whnf)
  refine⟨i64_range (by decide) (by decide),?_⟩
  conv=>whnf
  exact⟨2,by decide,Weak.genT [some 0,some 1,some 2,some 3,some 4,some 5] rfl rfl ⟨_,rfl,rfl,by decide⟩ ⟨⟨_,rfl,rfl,rfl,rfl,rfl,cells5 ⟨_,rfl,rfl,rfl⟩ ⟨_,rfl,rfl,rfl⟩ ⟨_,rfl,rfl,rfl⟩ ⟨_,rfl,rfl,rfl⟩ ⟨_,rfl,rfl,rfl⟩⟩,rk rfl fun x _=>xr_keep M (by decide) x,⟨_,rfl,rfl,rfl,rfl,rfl,fun x y _ hy=>row_upd2 hy (xr_step M (by decide) rfl x)⟩,rk rfl fun x _=>xr_keep M (by decide) x,rk rfl fun x _=>xr_keep M (by decide) x,rk rfl fun x _=>xr_keep M (by decide) x,trivial⟩ ⟨⟨_,rfl,rfl⟩,⟨_,rfl,rfl⟩,⟨_,rfl,rfl,rfl⟩,⟨_,rfl,rfl⟩,⟨_,rfl,rfl⟩,trivial⟩,by decide⟩
 ·refine so ?_
  conv=>whnf
  repeat (refine⟨by first | decide | exact ixl rfl,?_⟩;conv=>whnf)
  refine⟨i64_range (by decide) (by decide),?_⟩
  conv=>whnf
  exact⟨3,by decide,Weak.genT [some 0,some 1,some 2,some 3,some 4,some 5] rfl rfl ⟨_,rfl,rfl,by decide⟩ ⟨⟨_,rfl,rfl,rfl,rfl,rfl,cells5 ⟨_,rfl,rfl,rfl⟩ ⟨_,rfl,rfl,rfl⟩ ⟨_,rfl,rfl,rfl⟩ ⟨_,rfl,rfl,rfl⟩ ⟨_,rfl,rfl,rfl⟩⟩,rk rfl fun x _=>xr_keep M (by decide) x,rk rfl fun x _=>xr_keep M (by decide) x,⟨_,rfl,rfl,rfl,rfl,rfl,fun x y _ hy=>row_upd2 hy (xr_step M (by decide) rfl x)⟩,rk rfl fun x _=>xr_keep M (by decide) x,rk rfl fun x _=>xr_keep M (by decide) x,trivial⟩ ⟨⟨_,rfl,rfl⟩,⟨_,rfl,rfl⟩,⟨_,rfl,rfl,rfl⟩,⟨_,rfl,rfl⟩,⟨_,rfl,rfl⟩,trivial⟩,by decide⟩
 ·refine so ?_
  conv=>whnf
  repeat (refine⟨by first | decide | exact ixl rfl,?_⟩;conv=>whnf)
  refine⟨i64_range (by decide) (by decide),?_⟩
  conv=>whnf
  exact⟨4,by decide,Weak.genT [some 0,some 1,some 2,some 3,some 4,some 5] rfl rfl ⟨_,rfl,rfl,by decide⟩ ⟨⟨_,rfl,rfl,rfl,rfl,rfl,cells5 ⟨_,rfl,rfl,rfl⟩ ⟨_,rfl,rfl,rfl⟩ ⟨_,rfl,rfl,rfl⟩ ⟨_,rfl,rfl,rfl⟩ ⟨_,rfl,rfl,rfl⟩⟩,rk rfl fun x _=>xr_keep M (by decide) x,rk rfl fun x _=>xr_keep M (by decide) x,rk rfl fun x _=>xr_keep M (by decide) x,rk rfl fun x _=>xr_keep M (by decide) x,⟨_,rfl,rfl,rfl,rfl,rfl,fun x y _ hy=>row_upd2 hy (xr_step M (by decide) rfl x)⟩,trivial⟩ ⟨⟨_,rfl,rfl⟩,⟨_,rfl,rfl⟩,⟨_,rfl,rfl,rfl⟩,⟨_,rfl,rfl⟩,⟨_,rfl,rfl⟩,trivial⟩,by decide⟩
 ·refine so ?_
  conv=>whnf
  repeat (refine⟨by first | decide | exact ixl rfl,?_⟩;conv=>whnf)
  refine⟨i64_range (by decide) (by decide),?_⟩
  conv=>whnf
  exact⟨5,by decide,Weak.genT [some 0,some 1,some 2,some 3,some 4,some 5] rfl rfl ⟨_,rfl,rfl,by decide⟩ ⟨⟨_,rfl,rfl,rfl,rfl,rfl,cells5 ⟨_,rfl,rfl,rfl⟩ ⟨_,rfl,rfl,rfl⟩ ⟨_,rfl,rfl,rfl⟩ ⟨_,rfl,rfl,rfl⟩ ⟨_,rfl,rfl,rfl⟩⟩,rk rfl fun x _=>xr_keep M (by decide) x,rk rfl fun x _=>xr_keep M (by decide) x,rk rfl fun x _=>xr_keep M (by decide) x,⟨_,rfl,rfl,rfl,rfl,rfl,fun x y _ hy=>row_upd2 hy (xr_step M (by decide) rfl x)⟩,rk rfl fun x _=>xr_keep M (by decide) x,trivial⟩ ⟨⟨_,rfl,rfl⟩,⟨_,rfl,rfl⟩,⟨_,rfl,rfl,rfl⟩,⟨_,rfl,rfl⟩,⟨_,rfl,rfl⟩,trivial⟩,by decide⟩
 ·refine so ?_
  conv=>whnf
  exact Weak.genT (tl:=[(0,.c .any)]) (xs:=[gG 5 idn,gq 5 (xch (sw 4 3) M 0),gq 5 (xch (sw 4 3) M 1),gq 5 (xch (sw 4 3) M 2),gq 5 (xch (sw 4 3) M 3),gq 5 (xch (sw 4 3) M 4)]) [some 0,some 1,some 2,some 3,some 5,some 4] rfl rfl ⟨_,rfl,rfl,by decide⟩ ⟨⟨_,rfl,rfl,rfl,rfl,rfl,cells5 ⟨_,rfl,rfl,rfl⟩ ⟨_,rfl,rfl,rfl⟩ ⟨_,rfl,rfl,rfl⟩ ⟨_,rfl,rfl,rfl⟩ ⟨_,rfl,rfl,rfl⟩⟩,rk rfl fun x _=>xr_all M (by decide) x,rk rfl fun x _=>xr_all M (by decide) x,rk rfl fun x _=>xr_all M (by decide) x,rk rfl fun x _=>xr_all M (by decide) x,rk rfl fun x _=>xr_all M (by decide) x,trivial⟩ ⟨⟨rfl,rfl⟩,trivial⟩
end Mx
end Go.Proofs.YtkmbnldginonbaaGreat
/- What stands between the steps of the reduction to Hessenberg form; its sizes. -/
namespace Go.Proofs.YtkmbnldginonbaaGreat
open Go.RowKit
namespace Mx
set_option maxHeartbeats 4000000 in
theorem nz_ok {x:Rat} {L:Nat} (h:qlen x≤L) (hL:L+3≤LIM):FnOK Tryz.prog true 47 [.g (nq x)] (.c (.bool (decide (x≠0)))):=by
 have k:=qsign_ok (q:=ofR x) (ofR_fit h) hL
 rw[ofR_val]at k
 refine fn_ok (E:=E1) E1_ok Tryz.func47 rfl mixed (by kernel_rfl) (by kernel_rfl) ?_
 conv=>whnf
 refine⟨_,k,?_⟩
 conv=>whnf
 refine⟨rfl,Sub.bool ?_⟩
 show(!decide (x.num.sign=0))=decide (x≠0)
 by_cases e:x=0
 ·simp[e]
 ·have:¬ x.num.sign=0:=fun h=>e ((rat_sign_zero _).1 h)
  simp[e]
def KB (n L:Nat):Nat:=16^be n (n-1)*L
theorem be_mono (n:Nat) {a b:Nat} (h:a≤b):be n a≤be n b:=by
 induction b with
 | zero=>rw[Nat.le_zero.1 h];exact Nat.le_refl _
 | succ b ih =>
  rcases Nat.lt_or_ge a (b+1)with h1 | h1
  ·refine Nat.le_trans (ih (by omega)) ?_
   show be n b≤if b=0 then 0 else be n b+(n-1-b)
   split
   ·next e=>rw[e];exact Nat.le_refl 0
   ·omega
  ·rw[show a=b+1 by omega];exact Nat.le_refl _
theorem KB_le {n L e:Nat} (h:e≤be n (n-1)):16^e*L≤KB n L:=Nat.mul_le_mul_right L (Nat.pow_le_pow_right (by omega) h)
theorem KB_pos {n L:Nat} (h:1≤L):1≤KB n L:=Nat.mul_le_mul (Nat.pow_pos (by omega)) h
theorem hs_kb {n L:Nat} {A:Nat->Nat->Rat} (h:Bq n L A) (h1:1≤L) {m:Nat} (hm:m+1≤n):Bq n (KB n L) (hs n A m):=fun a b ha hb=>Nat.le_trans (hs_bq h h1 m hm a b ha hb) (KB_le (be_mono n (by omega)))
theorem el_kb {n L:Nat} {A:Nat->Nat->Rat} (h:Bq n L A) (h1:1≤L) {m:Nat} (h0:1≤m) (hm:m+1<n) (hp:pv n (hs n A m) m<n) {t:Nat} (ht:m+t<n):Bq n (KB n L) (el m (xch (sw (pv n (hs n A m) m) m) (hs n A m)) t):=fun a b ha hb=>by
 have h2:=hs_bq h h1 m (by omega)
 have h3:=xch_bq (s:=sw (pv n (hs n A m) m) m) h2 fun a ha=>sw_lt hp (by omega) ha
 have h4:1≤16^be n m*L:=Nat.mul_le_mul (Nat.pow_pos (by omega)) h1
 have h5:=el_bq (m:=m) h3 h4 t ht a b ha hb
 refine Nat.le_trans h5 ?_
 rw[← Nat.mul_assoc,← Nat.pow_add]
 refine KB_le ?_
 have h6:be n (m+1)≤be n (n-1):=be_mono n (by omega)
 have h7:be n (m+1)=be n m+(n-1-m):=if_neg (by omega)
 omega
theorem el_piv {n:Nat} {A:Nat->Nat->Rat} {m:Nat} (h0:1≤m) (hm:m+1<n) (hp:pv n A m<n) (t:Nat):el m (xch (sw (pv n A m) m) A) t m (m-1)≠0:=by
 obtain⟨p1,p2,p3,p4⟩:=pv_spec n A (show m≤n by omega)
 have e:∀(B:Nat->Nat->Rat) (i:Nat),i≠m->el1 m i B m (m-1)=B m (m-1):=fun B i hi=>by
  unfold el1
  split
  ·rfl
  ·show ca _ i m (ra _ i m B) m (m-1)=_
   unfold ca
   rw[if_neg (by omega)]
   unfold ra
   rw[if_neg fun e=>hi e.symm]
 have key:∀ t,el m (xch (sw (pv n A m) m) A) t m (m-1)=xch (sw (pv n A m) m) A m (m-1):=by
  intro t
  induction t with
  | zero=>rfl
  | succ t ih =>
   show el1 m (m+1+t) (el m _ t) m (m-1)=_
   rw[e _ _ (by omega),ih]
 rw[key t]
 show A (sw (pv n A m) m m) (sw (pv n A m) m (m-1))≠0
 have e1:sw (pv n A m) m m=pv n A m:=by
  unfold sw
  split
  ·omega
  ·rw[if_pos rfl]
 have e2:sw (pv n A m) m (m-1)=m-1:=by
  unfold sw
  rw[if_neg (by omega),if_neg (by omega)]
 rw[e1,e2]
 exact p4 hp
theorem stp_none {n m:Nat} {A:Nat->Nat->Rat} (h:pv n A m=n) (a b:Nat):stp n m A a b=A a b:=by
 unfold stp
 rw[if_pos h]
theorem stp_some {n m P:Nat} {A:Nat->Nat->Rat} (h:pv n A m=P) (hP:P<n) (a b:Nat):stp n m A a b=el m (xch (sw P m) A) (n-1-m) a b:=by
 unfold stp
 rw[if_neg (by omega),h]
theorem xch_self {m:Nat} (A:Nat->Nat->Rat) (a b:Nat):xch (sw m m) A a b=A a b:=by
 have e:∀ x,sw m m x=x:=fun x=>by
  unfold sw
  by_cases h:x=m
  ·rw[if_pos h,h]
  ·rw[if_neg h,if_neg h]
 show A (sw m m a) (sw m m b)=_
 rw[e,e]
theorem el1_zero {m i:Nat} {A:Nat->Nat->Rat} (h:A i (m-1)=0) (a b:Nat):el1 m i A a b=A a b:=by
 unfold el1
 rw[if_pos h]
theorem el1_some {m i:Nat} {A:Nat->Nat->Rat} {u:Rat} (h:¬ A i (m-1)=0) (hu:A i (m-1) / A m (m-1)=u) (a b:Nat):el1 m i A a b=ca u i m (ra u i m A) a b:=by
 unfold el1
 rw[if_neg h,hu]
def md1 (u:Rat) (i m:Nat) (A:Nat->Nat->Rat) (j a x:Nat):Rat:=if a=i/\x<j then A a x-u*A m x else A a x
theorem md1_zero (u:Rat) (i m:Nat) (A:Nat->Nat->Rat) (a x:Nat):md1 u i m A 0 a x=A a x:=if_neg (by omega)
theorem md1_all (u:Rat) (i m:Nat) (A:Nat->Nat->Rat) {n x:Nat} (hx:x<n) (a:Nat):ra u i m A a x=md1 u i m A n a x:=by
 unfold ra md1
 by_cases h:a=i
 ·rw[if_pos h,if_pos ⟨h,hx⟩]
 ·rw[if_neg h,if_neg fun e=>h e.1]
theorem md1_old (u:Rat) (i m:Nat) (A:Nat->Nat->Rat) (j:Nat):md1 u i m A j i j=A i j:=if_neg (by omega)
theorem md1_m (u:Rat) {i m:Nat} (h:m≠i) (A:Nat->Nat->Rat) (j x:Nat):md1 u i m A j m x=A m x:=if_neg fun e=>h e.1
theorem md1_step (u:Rat) (i m:Nat) (A:Nat->Nat->Rat) (j x:Nat):(if x=j then A i j-u*A m j else md1 u i m A j i x)=md1 u i m A (j+1) i x:=by
 unfold md1
 by_cases h:x=j
 ·rw[if_pos h,if_pos ⟨rfl,by omega⟩,h]
 ·rw[if_neg h]
  by_cases h2:x<j
  ·rw[if_pos ⟨rfl,h2⟩,if_pos ⟨rfl,by omega⟩]
  ·rw[if_neg fun e=>h2 e.2,if_neg fun e=>h (by omega)]
theorem md1_keep (u:Rat) {i m a:Nat} (h:a≠i) (A:Nat->Nat->Rat) (j x:Nat):md1 u i m A (j+1) a x=md1 u i m A j a x:=by
 unfold md1
 rw[if_neg fun e=>h e.1,if_neg fun e=>h e.1]
def md2 (u:Rat) (i m:Nat) (B:Nat->Nat->Rat) (j a x:Nat):Rat:=if a<j then ca u i m B a x else B a x
theorem md2_zero (u:Rat) (i m:Nat) (B:Nat->Nat->Rat) (a x:Nat):md2 u i m B 0 a x=B a x:=if_neg (by omega)
theorem md2_all (u:Rat) (i m:Nat) (B:Nat->Nat->Rat) {n a:Nat} (ha:a<n) (x:Nat):ca u i m B a x=md2 u i m B n a x:=(if_pos ha).symm
theorem md2_old (u:Rat) (i m:Nat) (B:Nat->Nat->Rat) (j x:Nat):md2 u i m B j j x=B j x:=if_neg (by omega)
theorem md2_step (u:Rat) (i m:Nat) (B:Nat->Nat->Rat) (j x:Nat):(if x=m then B j m+u*B j i else md2 u i m B j j x)=md2 u i m B (j+1) j x:=by
 rw[md2_old]
 have e:md2 u i m B (j+1) j x=ca u i m B j x:=if_pos (by omega)
 rw[e]
 unfold ca
 by_cases h:x=m
 ·rw[if_pos h,if_pos h,h]
 ·rw[if_neg h,if_neg h]
theorem md2_keep (u:Rat) {i m j a:Nat} (h:a≠j) (B:Nat->Nat->Rat) (x:Nat):md2 u i m B (j+1) a x=md2 u i m B j a x:=by
 unfold md2
 by_cases h1:a<j
 ·rw[if_pos h1,if_pos (by omega)]
 ·rw[if_neg h1,if_neg (by omega)]
theorem ra_kb {n K:Nat} {A:Nat->Nat->Rat} {u:Rat} {i m:Nat} (h:Bq n K A) (hu:qlen u≤2*K) (hm:m<n) (h1:1≤K):Bq n (5*K) (ra u i m A):=fun a b ha hb=>Nat.le_trans (ra_bq (i:=i) h hu hm h1 a b ha hb) (by omega)
/-! Places that a call below does not see. -/
theorem lt_asg {m:Nat} {tl:List (Nat × V)} (h:allP tl fun p=>p.2.lt m=true) (t:Nat):(asg tl t).lt m=true:=by
 rcases asg_mem tl t with e | e
 ·rw[e];rfl
 ·exact allP_mem h _ e
theorem lt_put {m:Nat} {σ:St} {d:Option Nat} {v:V} (h:∀ t,(σ.tm t).lt m=true) (hv:v.lt m=true) (t:Nat):((σ.put d v).tm t).lt m=true:=by
 cases d with
 | none=>exact h t
 | some d =>
  show(if t=d then v else σ.tm t).lt m=true
  split
  ·exact hv
  ·exact h t
theorem live_all {xs:List Gx}:∀ B∈xs.map gb,B.st=0∨2≤B.st:=fun B hB=>by
 obtain⟨x,_,rfl⟩:=List.mem_map.1 hB
 exact .inl rfl
end Mx
end Go.Proofs.YtkmbnldginonbaaGreat
/- qpoly.Scale; charpoly.one and charpoly.shift. -/
namespace Go.Proofs.YtkmbnldginonbaaGreat
open Go.RowKit
namespace Rf
set_option maxHeartbeats 4000000 in
theorem qscale1_ok {q x:RawR} {L L':Nat} (hq:q.Fit L) (hx:x.Fit L') (hL:L+L'+3≤LIM):FnOK Tryz.prog true 95 [.g (rr q),.g zcells,.c (.xp 4 fun j=>boxF (rr x) 0 (0+j))] (.g (nq (q.val*x.val))):=by
 have h:=qmul_ok hq hx hL
 refine fn_ok (E:=E1) E1_ok Tryz.func95 rfl mixed (by kernel_rfl) (by kernel_rfl) ?_
 conv=>whnf
 refine⟨_,h,?_⟩
 conv=>whnf
 exact⟨rfl,Sub.refl _⟩
set_option maxHeartbeats 4000000 in
theorem qpScale_ok {n:Nat} {q:Nat->RawR} {x:RawR} {z:Nat->Rat} {L L':Nat} (hn:n≤1048576) (hq:∀ a,a<n->(q a).Fit L) (hx:x.Fit L') (hL:L+L'+3≤LIM) (hz:∀ a,a<n->(q a).val*x.val=z a):FnOK Tryz.prog true 44 [.c (ql n q),.g (rr x)] (.c (nql (Q.tq z n) z)):=by
 have h0:=merge_scale (q:=q) (z:=z) (u:=fun j=>boxF (rr x) 0 (0+j)) hn fun a ha=>by
  rw[← hz a ha]
  exact qscale1_ok (hq a ha) hx hL
 have h:=fun(g:Nat->Cell) (hg:g 0 = .xp 4 fun j=>boxF (rr x) 0 (0+j))=>cap_weak (g:=g) h0 hg
 clear hq hz hx
 refine fn_ok (E:=E1) E1_ok Tryz.func44 rfl mixed (by kernel_rfl) (by kernel_rfl) ?_
 conv=>whnf
 refine⟨fun i j hi hj=>box_clos (l:=rr x) (i:=i) (j:=j) rfl,?_⟩
 conv=>whnf
 refine⟨_,h _ rfl,?_⟩
 conv=>whnf
 exact⟨rfl,Sub.refl _⟩
end Rf
namespace Mx
open Rf
theorem row1_clos {x:Rat} {i j:Nat} (hi:i<1) (hj:j<4):(rowF 4 (nq x) i j).clos=true:=by
 obtain rfl:i=0:=by omega
 match j,hj with
 | 0,_=>rfl
 | 1,_=>rfl
 | 2,_=>rfl
 | 3,_=>rfl
theorem row1_eq {x:Rat} {v:Nat->Rat} {i j:Nat} (hi:i<1) (h:v 0=x):rowF 4 (nq x) i j=qlF (fun j=>ofR (v j)) i j:=by
 obtain rfl:i=0:=by omega
 unfold rowF
 rw[Nat.zero_mul,Nat.zero_add,← h]
theorem xs_app (v:Nat->Rat) (i j:Nat):appF 1 (rowF 4 (nq 0)) (qlF fun j=>ofR (v j)) i j=qlF (fun j=>ofR (if 1≤j then v (j-1)else 0)) i j:=by
 unfold appF
 by_cases h:i<1
 ·rw[if_pos h]
  exact row1_eq h (if_neg (by omega))
 ·rw[if_neg h]
  show(rr (ofR (v (i-1)))).getD j .any=(rr (ofR (if 1≤i then v (i-1)else 0))).getD j .any
  rw[if_pos (by omega)]
theorem q1_ok:FnOK Tryz.prog true 45 [.c (.int .i64 1)] (.g (nq 1)):=by
 have:=qof_ok (n:=1) (by omega) (by omega)
 exact this
set_option maxHeartbeats 4000000 in
theorem one_ok:FnOK Tryz.prog true 41 [] (.c (nql 1 fun _=>1)):=by
 have k:=q1_ok
 refine fn_ok (E:=E1) E1_ok Tryz.func41 rfl mixed (by kernel_rfl) (by kernel_rfl) ?_
 conv=>whnf
 refine⟨_,k,?_⟩
 conv=>whnf
 refine⟨fun i j hi hj=>row1_clos (x:=1) hi hj,?_⟩
 conv=>whnf
 exact⟨rfl,subRowG rfl fun i j hi _=>row1_eq hi rfl⟩
def xs (v:Nat->Rat) (j:Nat):Rat:=if 1≤j then v (j-1)else 0
set_option maxHeartbeats 4000000 in
theorem shift_ok {n:Nat} {v:Nat->Rat} {L:Nat} (hn:n≤1000) (h:∀ i,i<n->qlen (v i)≤L) (h1:1≤L) (hL:L+3≤LIM):FnOK Tryz.prog true 43 [.c (nql n v)] (.c (nql (Q.tq (xs v) (n+1)) (xs v))):=by
 have k0:FnOK Tryz.prog true 45 [.c (.int .i64 0)] (.g (nq 0)):=qof0
 have k:=Rf.arg_ok (qnorm_ok (n:=n+1) (q:=fun i=>ofR (xs v i)) (L:=L) (v:=xs v) (funext fun i=>ofR_val _) (by omega) (fun i hi=>ofR_fit (by
  unfold xs
  split
  ·exact h _ (by omega)
  ·exact Nat.le_trans q_zero h1)) hL) (args':=[.c (.row 4 (1+n) (appF 1 (rowF 4 (nq 0)) (qlF fun j=>ofR (v j))))]) fun D w vs h=>by
   match vs,h with
   | [v1],⟨h1,_⟩=>exact⟨subRowG (by omega) (fun a b _ _=>xs_app v a b) D w v1 h1,trivial⟩
 refine fn_ok (E:=E1) E1_ok Tryz.func43 rfl mixed (by kernel_rfl) (by kernel_rfl) ?_
 conv=>whnf
 refine⟨_,k0,?_⟩
 conv=>whnf
 refine⟨by show 1+n≤16777216;omega,fun a b _ hb=>one_ql (c:=fun i=>ofR (v i)) true a b hb,?_⟩
 conv=>whnf
 refine .inr ⟨fun a b ha hb=>?_,?_⟩
 ·exact(congrArg Cell.clos (xs_app v a b)).trans (q_clos _ a b)
 conv=>whnf
 refine⟨_,k,?_⟩
 conv=>whnf
 exact⟨rfl,Sub.refl _⟩
theorem scale_step {m:Nat} {F:Nat->Rat} {w:Rat} {L L':Nat} (hm:m≤1000) (hF:∀ i,i<m->qlen (F i)≤L) (hw:qlen w≤L') (hL:L+L'+3≤LIM):FnOK Tryz.prog true 44 [.c (nql m F),.g (nq w)] (.c (nql (Q.tq (fun i=>F i*w) m) fun i=>F i*w)) :=
 qpScale_ok (x:=ofR w) (z:=fun i=>F i*w) (by omega) (fun i hi=>ofR_fit (hF i hi)) (ofR_fit hw) hL fun i _=>by rw[ofR_val,ofR_val]
theorem sub_step {m N:Nat} {F Z v:Nat->Rat} {L:Nat} (hm:m≤N) (hN:1≤N) (hN2:N≤1000) (hF:∀ i,i<N->qlen (F i)≤L) (hZ:∀ i,i<m->qlen (Z i)≤L) (h1:1≤L) (hL:L+L+4≤LIM) (h0:∀ i,m≤i->Z i=0) (hv:∀ i,i<N->F i-Z i=v i) (ht:v (N-1)≠0):FnOK Tryz.prog true 42 [.c (nql N F),.c (nql (Q.tq Z m) Z)] (.c (nql N v)):=by
 have hT:=Q.tq_le Z m
 have h:=qpSub_ok (n:=N) (m:=Q.tq Z m) (q:=fun i=>ofR (F i)) (p:=fun i=>ofR (Z i)) (L:=L) (v:=v) (fun i hi=>by
  have e1:Q.qx N (fun i=>(ofR (F i)).val) i=F i:=by rw[Q.qx_lt (by omega),ofR_val]
  have e2:Q.qx (Q.tq Z m) (fun i=>(ofR (Z i)).val) i=Z i:=by
   unfold Q.qx
   split
   ·exact ofR_val _
   ·next hlt =>
    rcases Nat.lt_or_ge i m with h3 | h3
    ·exact(Q.tq_behind (Nat.le_of_not_lt hlt) h3).symm
    ·exact(h0 i h3).symm
  rw[e1,e2]
  exact hv i (by omega)) (by omega) (by omega) (fun i hi=>ofR_fit (hF i hi)) (fun i hi=>ofR_fit (hZ i (by omega))) h1 hL
 rw[show max N (Q.tq Z m)=N by omega,Q.tq_self (v:=v) (n:=N) (fun k hk=>by rw[show k=N-1 by omega];exact ht)]at h
 exact h
theorem shift_step {n:Nat} {v:Nat->Rat} {L:Nat} (hn:n≤999) (h:∀ i,i<n+1->qlen (v i)≤L) (h1:1≤L) (hL:L+3≤LIM) (ht:v n≠0):FnOK Tryz.prog true 43 [.c (nql (n+1) v)] (.c (nql (n+2) (xs v))):=by
 have k:=shift_ok (n:=n+1) (by omega) h h1 hL
 rwa [Q.tq_self (v:=xs v) (n:=n+1+1) (fun k hk=>by
  obtain rfl:k=n+1:=by omega
  show(if 1≤n+1 then v (n+1-1)else 0)≠0
  rw[if_pos (by omega),Nat.add_sub_cancel]
  exact ht)]at k
end Mx
end Go.Proofs.YtkmbnldginonbaaGreat
