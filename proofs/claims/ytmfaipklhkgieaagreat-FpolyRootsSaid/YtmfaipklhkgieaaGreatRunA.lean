/- Abstract values and states written out whole, so that a run may go on from them: what is known stays known. -/
import Derived.Test.YtmfaipklhkgieaaGreatAbsJ
namespace Go.Proofs.YtmfaipklhkgieaaGreat
open Go.RowKit
def fN {β : Type} (n : Nat) (k : Nat → β) : β := match n with
  | 0 => k 0
  | m + 1 => k (Nat.succ m)
theorem fN_eq {β : Type} (n : Nat) (k : Nat → β) : fN n k = k n := by cases n <;> rfl
def fI {β : Type} (n : Int) (k : Int → β) : β := match n with
  | .ofNat m => fN m fun m => k (.ofNat m)
  | .negSucc m => fN m fun m => k (.negSucc m)
theorem fI_eq {β : Type} (n : Int) (k : Int → β) : fI n k = k n := by cases n <;> simp only [fI, fN_eq]
def fB {β : Type} (b : Bool) (k : Bool → β) : β := match b with
  | true => k true
  | false => k false
theorem fB_eq {β : Type} (b : Bool) (k : Bool → β) : fB b k = k b := by cases b <;> rfl
def fK {β : Type} (x : IntKind) (k : IntKind → β) : β := match x with
  | .i8 => k .i8
  | .i16 => k .i16
  | .i32 => k .i32
  | .i64 => k .i64
  | .u8 => k .u8
  | .u16 => k .u16
  | .u32 => k .u32
  | .u64 => k .u64
theorem fK_eq {β : Type} (x : IntKind) (k : IntKind → β) : fK x k = k x := by cases x <;> rfl
/-- Each of the first m, in order. -/
def fSeq {α β : Type} (m : Nat) (g : Nat → (α → β) → β) (acc : List α) (k : List α → β) : β := match m with
  | 0 => k acc
  | m + 1 => g m fun c => fSeq m g (c :: acc) k
theorem fSeq_eq {α β : Type} {g : Nat → (α → β) → β} {h : Nat → α} (hg : ∀ x k, g x k = k (h x)) : ∀ (m : Nat) (acc : List α) (k : List α → β), fSeq m g acc k = k ((List.range m).map h ++ acc)
  | 0, _, _ => rfl
  | m + 1, acc, k => by
    simp only [fSeq, hg]
    rw [fSeq_eq hg m]
    rw [List.range_succ, List.map_append, List.append_assoc]
    rfl
def listC (m : Nat) (h : Nat → Cell) : List Cell := (List.range m).map h
def nrmC : Cell → Cell
  | .row sz n f => .row sz n (rowF sz (listC (n * sz) fun x => nrmC (f (x / sz) (x % sz))))
  | .xp m f => .xp m fun j => (listC m fun x => nrmC (f x)).getD j .any
  | .cl F m f => .cl F m fun j => (listC m fun x => nrmC (f x)).getD j .any
  | c => c
def fC {β : Type} : Cell → (Cell → β) → β
  | .any, k => k .any
  | .bool b, k => fB b fun b => k (.bool b)
  | .int x n, k => fK x fun x => fI n fun n => k (.int x n)
  | .nil, k => k .nil
  | .row sz n f, k => fN sz fun sz' => fN n fun n' => fSeq (n' * sz') (fun x kk => fC (f (x / sz') (x % sz')) kk) [] fun l => k (.row sz' n' (rowF sz' l))
  | .p i u sz a o, k => fN i fun i => fN u fun u => fN sz fun sz => fN a fun a => fN o fun o => k (.p i u sz a o)
  | .gs i u, k => fN i fun i => fN u fun u => k (.gs i u)
  | .sl i u sz o n, k => fN i fun i => fN u fun u => fN sz fun sz => fN o fun o => fN n fun n => k (.sl i u sz o n)
  | .xp m f, k => fN m fun m' => fSeq m' (fun x kk => fC (f x) kk) [] fun l => k (.xp m' fun j => l.getD j .any)
  | .fn F, k => fN F fun F => k (.fn F)
  | .cl F m f, k => fN F fun F => fN m fun m' => fSeq m' (fun x kk => fC (f x) kk) [] fun l => k (.cl F m' fun j => l.getD j .any)
theorem fC_eq {β : Type} : ∀ (c : Cell) (k : Cell → β), fC c k = k (nrmC c)
  | .any, _ => rfl
  | .bool b, k => by simp only [fC, fB_eq, nrmC]
  | .int x n, k => by simp only [fC, fK_eq, fI_eq, nrmC]
  | .nil, _ => rfl
  | .row sz n f, k => by
    simp only [fC, fN_eq, nrmC]
    rw [fSeq_eq (h := fun x => nrmC (f (x / sz) (x % sz))) fun x kk => fC_eq (f (x / sz) (x % sz)) kk]
    simp only [List.append_nil, listC]
  | .p i u sz a o, k => by simp only [fC, fN_eq, nrmC]
  | .gs i u, k => by simp only [fC, fN_eq, nrmC]
  | .sl i u sz o n, k => by simp only [fC, fN_eq, nrmC]
  | .xp m f, k => by
    simp only [fC, fN_eq, nrmC]
    rw [fSeq_eq (h := fun x => nrmC (f x)) fun x kk => fC_eq (f x) kk]
    simp only [List.append_nil, listC]
  | .fn F, k => by simp only [fC, fN_eq, nrmC]
  | .cl F m f, k => by
    simp only [fC, fN_eq, nrmC]
    rw [fSeq_eq (h := fun x => nrmC (f x)) fun x kk => fC_eq (f x) kk]
    simp only [List.append_nil, listC]
theorem listC_get {m : Nat} {h : Nat → Cell} {j : Nat} (hj : j < m) : (listC m h).getD j .any = h j := by
  simp [listC, List.getD, hj]
theorem nrmC_rel {D : Nat → Prop} {w : World} : ∀ {c : Cell} {ρ : List Loc} {v : Value}, CRel D w ρ c v → CRel D w ρ (nrmC c) v
  | .any, _, _, h => h
  | .bool _, _, _, h => h
  | .int _ _, _, _, h => h
  | .nil, _, _, h => h
  | .fn _, _, _, h => h
  | .p .., _, _, h => h
  | .gs .., _, _, h => h
  | .sl .., _, _, h => h
  | .row sz n f, _, _, h => by
    obtain ⟨A, c, h1, h2, h3⟩ := h
    refine ⟨A, c, h1, h2, fun hn => ?_⟩
    obtain ⟨b, o, hA, hb, hD, hc⟩ := h3 hn
    refine ⟨b, o, hA, hb, hD, fun i j hi hj => ?_⟩
    obtain ⟨u, hu, hr⟩ := hc i j hi hj
    refine ⟨u, hu, ?_⟩
    have h0 : 0 < sz := by omega
    have e1 : (i * sz + j) / sz = i := by
      rw [Nat.add_comm, Nat.add_mul_div_right _ _ h0, Nat.div_eq_of_lt hj, Nat.zero_add]
    have e2 : (i * sz + j) % sz = j := by rw [Nat.add_comm, Nat.add_mul_mod_self_right, Nat.mod_eq_of_lt hj]
    show CRel D w [] ((listC (n * sz) _).getD (i * sz + j) .any) u
    rw [listC_get (idx_lt hi hj (Nat.le_refl _)), e1, e2]
    exact nrmC_rel hr
  | .xp m f, _, _, h => by
    obtain ⟨b, o, h1, hb, hD, hc⟩ := h
    refine ⟨b, o, h1, hb, hD, fun j hj => ?_⟩
    obtain ⟨u, hu, hr⟩ := hc j hj
    refine ⟨u, hu, ?_⟩
    show CRel D w [] ((listC m _).getD j .any) u
    rw [listC_get hj]
    exact nrmC_rel hr
  | .cl F m f, ρ, _, h => by
    obtain ⟨caps, h1, h2, h3⟩ := h
    refine ⟨caps, h1, h2, fun j hj => ?_⟩
    obtain ⟨u, hu, hr⟩ := h3 j hj
    refine ⟨u, hu, ?_⟩
    show CRel D w ρ ((listC m _).getD j .any) u
    rw [listC_get hj]
    exact nrmC_rel hr
def fL {β : Type} : List Cell → (List Cell → β) → β
  | [], k => k []
  | c :: l, k => fC c fun c => fL l fun l => k (c :: l)
theorem fL_eq {β : Type} : ∀ (l : List Cell) (k : List Cell → β), fL l k = k (l.map nrmC)
  | [], _ => rfl
  | c :: l, k => by simp only [fL, fC_eq, fL_eq l, List.map_cons]
def nrmV : V → V
  | .c x => .c (nrmC x)
  | .g l => .g (l.map nrmC)
  | .t2 a b => .t2 (nrmV a) (nrmV b)
  | .t3 a b d => .t3 (nrmV a) (nrmV b) (nrmV d)
  | .t4 a b d e => .t4 (nrmV a) (nrmV b) (nrmV d) (nrmV e)
def fV {β : Type} : V → (V → β) → β
  | .c x, k => fC x fun x => k (.c x)
  | .g l, k => fL l fun l => k (.g l)
  | .t2 a b, k => fV a fun a => fV b fun b => k (.t2 a b)
  | .t3 a b d, k => fV a fun a => fV b fun b => fV d fun d => k (.t3 a b d)
  | .t4 a b d e, k => fV a fun a => fV b fun b => fV d fun d => fV e fun e => k (.t4 a b d e)
theorem fV_eq {β : Type} : ∀ (x : V) (k : V → β), fV x k = k (nrmV x)
  | .c x, k => by simp only [fV, fC_eq, nrmV]
  | .g l, k => by simp only [fV, fL_eq, nrmV]
  | .t2 a b, k => by simp only [fV, fV_eq a, fV_eq b, nrmV]
  | .t3 a b d, k => by simp only [fV, fV_eq a, fV_eq b, fV_eq d, nrmV]
  | .t4 a b d e, k => by simp only [fV, fV_eq a, fV_eq b, fV_eq d, fV_eq e, nrmV]
theorem nrmL_rel {D : Nat → Prop} {w : World} {ρ : List Loc} : ∀ {l : List Cell} {vs : List Value}, CRels D w ρ l vs → CRels D w ρ (l.map nrmC) vs
  | [], [], _ => trivial
  | _ :: _, _ :: _, h => ⟨nrmC_rel h.1, nrmL_rel h.2⟩
  | [], _ :: _, h => h.elim
  | _ :: _, [], h => h.elim
theorem nrmV_rel {D : Nat → Prop} {w : World} {ρ : List Loc} : ∀ {x : V} {v : Value}, VRel D w ρ x v → VRel D w ρ (nrmV x) v
  | .c _, _, h => nrmC_rel h
  | .g _, _, h => by obtain ⟨vs, h1, h2⟩ := h; exact ⟨vs, h1, nrmL_rel h2⟩
  | .t2 _ _, _, h => by obtain ⟨x, y, h1, h2, h3⟩ := h; exact ⟨x, y, h1, nrmV_rel h2, nrmV_rel h3⟩
  | .t3 _ _ _, _, h => by obtain ⟨x, y, z, h1, h2, h3, h4⟩ := h; exact ⟨x, y, z, h1, nrmV_rel h2, nrmV_rel h3, nrmV_rel h4⟩
  | .t4 _ _ _ _, _, h => by obtain ⟨x, y, z, u, h1, h2, h3, h4, h5⟩ := h; exact ⟨x, y, z, u, h1, nrmV_rel h2, nrmV_rel h3, nrmV_rel h4, nrmV_rel h5⟩
def nrmB (B : Blk) : Blk := match B.st with
  | 0 | 1 => { B with f := rowF B.sz (listC (B.n * B.sz) fun x => nrmC (B.f (x / B.sz) (x % B.sz))) }
  | _ => phB
def fBlk {β : Type} (B : Blk) (k : Blk → β) : β := match B.st with
  | 0 => fN B.t fun t => fN B.sz fun sz => fN B.n fun n => fN B.u fun u => fSeq (n * sz) (fun x kk => fC (B.f (x / sz) (x % sz)) kk) [] fun l => k ⟨t, sz, n, u, 0, rowF sz l⟩
  | 1 => fN B.t fun t => fN B.sz fun sz => fN B.n fun n => fN B.u fun u => fSeq (n * sz) (fun x kk => fC (B.f (x / sz) (x % sz)) kk) [] fun l => k ⟨t, sz, n, u, 1, rowF sz l⟩
  | _ => k phB
theorem fBlk_eq {β : Type} (B : Blk) (k : Blk → β) : fBlk B k = k (nrmB B) := by
  obtain ⟨t, sz, n, u, st, f⟩ := B
  match st with
  | 0 =>
    simp only [fBlk, nrmB, fN_eq]
    rw [fSeq_eq (h := fun x => nrmC (f (x / sz) (x % sz))) fun x kk => fC_eq (f (x / sz) (x % sz)) kk]
    simp only [List.append_nil, listC]
  | 1 =>
    simp only [fBlk, nrmB, fN_eq]
    rw [fSeq_eq (h := fun x => nrmC (f (x / sz) (x % sz))) fun x kk => fC_eq (f (x / sz) (x % sz)) kk]
    simp only [List.append_nil, listC]
  | _ + 2 => rfl
def fBs {β : Type} : List Blk → (List Blk → β) → β
  | [], k => k []
  | B :: l, k => fBlk B fun B => fBs l fun l => k (B :: l)
theorem fBs_eq {β : Type} : ∀ (l : List Blk) (k : List Blk → β), fBs l k = k (l.map nrmB)
  | [], _ => rfl
  | B :: l, k => by simp only [fBs, fBlk_eq, fBs_eq l, List.map_cons]
def listV (m : Nat) (h : Nat → V) : List V := (List.range m).map h
def getV (l : List V) (t : Nat) : V := l.getD t (.c .any)
/-- A state, written out. -/
def nrm (N : Nat) (σ : St) : St := ⟨getV (listV N fun t => nrmV (σ.tm t)), σ.bl.map nrmB⟩
def fSt {β : Type} (N : Nat) (σ : St) (k : St → β) : β := fSeq N (fun t kk => fV (σ.tm t) kk) [] fun l => fBs σ.bl fun bl => k ⟨getV l, bl⟩
theorem fSt_eq {β : Type} (N : Nat) (σ : St) (k : St → β) : fSt N σ k = k (nrm N σ) := by
  unfold fSt
  rw [fSeq_eq (h := fun t => nrmV (σ.tm t)) fun t kk => fV_eq (σ.tm t) kk, fBs_eq]
  simp only [List.append_nil, nrm, listV]
/-- Less is known, wherever. -/
def Lax (σ σ' : St) : Prop := ∀ C a w, Rel C σ a w → Rel C σ' a w
theorem Lax.refl (σ : St) : Lax σ σ := fun _ _ _ h => h
theorem Lax.trans {a b c : St} (h : Lax a b) (k : Lax b c) : Lax a c := fun C x w hr => k C x w (h C x w hr)
theorem Weak.lax {σ σ' : St} (h : ∀ m0, Weak m0 σ σ') : Lax σ σ' := fun C a w hr => h C.ρ0.length C a w (Nat.le_refl _) hr
/-- Blocks of which each cell is told by less, or that are forgotten. -/
theorem Sat.less {D0 : Nat → Prop} {w0 : Base} {w : World} {r : Bool} {ρ : List Loc} {bl : List Blk} (h : Sat D0 w0 r ρ bl w) (g : Blk → Blk) (hst : ∀ B, (g B).st ≤ 1 → (g B).st = B.st ∧ (g B).t = B.t ∧ (g B).sz = B.sz ∧ (g B).n = B.n ∧ (g B).u = B.u)
    (hc : ∀ B ∈ bl, (g B).st ≤ 1 → ∀ i j, i < B.n → j < B.sz → ∀ v, CRel (Dof D0 ρ bl) w (if B.st = 0 then ρ else []) (B.f i j) v → CRel (Dof D0 ρ bl) w (if B.st = 0 then ρ else []) ((g B).f i j) v) : Sat D0 w0 r ρ (bl.map g) w ∧ (∀ b, Dof D0 ρ (bl.map g) b → Dof D0 ρ bl b) := by
  have get : ∀ (k : Nat) (B' : Blk), (bl.map g)[k]? = some B' → ∃ B, bl[k]? = some B ∧ B' = g B := by
    intro k B' hk
    rw [List.getElem?_map] at hk
    cases hb : bl[k]? with
    | none => rw [hb] at hk; cases hk
    | some B => rw [hb] at hk; cases hk; exact ⟨B, rfl, rfl⟩
  have hD : ∀ b, Dof D0 ρ (bl.map g) b → Dof D0 ρ bl b := by
    rintro b (hx | ⟨k, l, B', e1, e2, e3, e4⟩)
    · exact .inl hx
    · obtain ⟨B, q1, rfl⟩ := get k B' e2
      exact .inr ⟨k, l, B, e1, q1, by rw [← (hst B (by omega)).1]; exact e3, e4⟩
  refine ⟨⟨h.below, h.d0, by simp [h.len], fun k l B' e1 e2 hs => ?_, fun i j li lj Bi Bj b e1 e2 e3 e4 e5 e6 e7 e8 => ?_, fun hr b o d hb => h.noU hr b o d (hD b hb)⟩, hD⟩
  · obtain ⟨B, q1, rfl⟩ := get k B' e2
    obtain ⟨s1, s2, s3, s4, s5⟩ := hst B hs
    obtain ⟨g0, g1⟩ := h.at_ k l B e1 q1 (by omega)
    rw [s1, s2, s3, s4, s5]
    refine ⟨g0, ?_⟩
    rcases g1 with g1 | ⟨b, cap, cs, g2, g3, g4, g5, g6, g7, g8, g9⟩
    · exact .inl g1
    · refine .inr ⟨b, cap, cs, g2, g3, g4, g5, g6, g7, g8, fun i j hi hj => ?_⟩
      obtain ⟨u, hu, hur⟩ := g9 i j hi hj
      exact ⟨u, hu, (hc B (List.mem_of_getElem? q1) hs i j hi hj u hur).step (Ext.refl _ _) (fun b _ hb => hD b hb) (LocsLe.refl _)⟩
  · obtain ⟨B1, q1, rfl⟩ := get i Bi e3
    obtain ⟨B2, q2, rfl⟩ := get j Bj e4
    exact h.dist i j li lj B1 B2 b e1 e2 q1 q2 (by rw [← (hst B1 e5).1]; exact e5) (by rw [← (hst B2 e6).1]; exact e6) e7 e8
theorem Lax.nrm (N : Nat) (σ : St) : Lax σ (nrm N σ) := by
  rintro C a w ⟨ρ, hs, hN, hdf, hf⟩
  obtain ⟨s1, s2⟩ := hs.less nrmB (fun B hb => by
    obtain ⟨t, sz, n, u, st, f⟩ := B
    match st, hb with
    | 0, _ => exact ⟨rfl, rfl, rfl, rfl, rfl⟩
    | 1, _ => exact ⟨rfl, rfl, rfl, rfl, rfl⟩
    | _ + 2, hb => exact absurd hb (by simp [nrmB, phB])) (fun B _ hb i j hi hj v hv => by
    obtain ⟨t, sz, n, u, st, f⟩ := B
    have h0 : 0 < sz := Nat.lt_of_le_of_lt (Nat.zero_le _) hj
    have e1 : (i * sz + j) / sz = i := by
      rw [Nat.add_comm, Nat.add_mul_div_right _ _ h0, Nat.div_eq_of_lt hj, Nat.zero_add]
    have e2 : (i * sz + j) % sz = j := by rw [Nat.add_comm, Nat.add_mul_mod_self_right, Nat.mod_eq_of_lt hj]
    have key : CRel (Dof C.D0 ρ σ.bl) w (if st = 0 then ρ else []) (rowF sz (listC (n * sz) fun x => nrmC (f (x / sz) (x % sz))) i j) v := by
      show CRel _ _ _ ((listC (n * sz) _).getD (i * sz + j) .any) v
      rw [listC_get (idx_lt hi hj (Nat.le_refl _)), e1, e2]
      exact nrmC_rel hv
    match st, hb with
    | 0, _ => exact key
    | 1, _ => exact key
    | _ + 2, hb => exact absurd hb (by simp [nrmB, phB]))
  refine ⟨ρ, s1, hN, hdf, fun t => ?_⟩
  show VRel _ _ _ (getV (listV N fun t => nrmV (σ.tm t)) t) _
  have : getV (listV N fun t => nrmV (σ.tm t)) t = nrmV (σ.tm t) ∨ getV (listV N fun t => nrmV (σ.tm t)) t = .c .any := by
    rcases Nat.lt_or_ge t N with h | h
    · left; simp [getV, listV, List.getD, h]
    · right; simp [getV, listV, List.getD, h]
  rcases this with e | e
  · rw [e]; exact (nrmV_rel (hf t)).step (Ext.refl _ _) (fun b _ hb => s2 b hb) (LocsLe.refl _)
  · rw [e]; trivial
end Go.Proofs.YtmfaipklhkgieaaGreat
