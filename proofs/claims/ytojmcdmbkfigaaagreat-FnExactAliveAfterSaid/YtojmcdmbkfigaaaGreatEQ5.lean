/- Part of the proofs about the heaps and memories: a law is joined in the text whose name ends in W and the law. -/
import Derived.Test.YtojmcdmbkfigaaaGreatEQ4
namespace Go.Vc
open Go Go.Proofs Go.RowKit
set_option linter.all false
instance : DatO RoutD where
  own cs c K := ∃ f_params f_lent f_steps : Sl, ∃ K_params K_lent K_steps : Items, cs = [f_params.val, f_lent.val, intV c.result, f_steps.val, intV c.body.result] ∧ InI c.result ∧ InI c.body.result ∧ (∀ u, Own u f_params c.params K_params) ∧ (∀ u, Own u f_lent c.lent K_lent) ∧ OwnD f_steps c.body.steps K_steps ∧ K = K_params ++ (K_lent ++ K_steps)
  read := by
    intro w cs c I h hA
    obtain ⟨f_params, f_lent, f_steps, K_params, K_lent, K_steps, h0, i_result, i_regs, o_params, o_lent, o_steps, rfl⟩ := h
    exact ⟨f_params, f_lent, f_steps, h0, i_result, i_regs, (let ⟨rows, k1, k2, k3⟩ := o_params w; ⟨rows, k1.rd fun p hp => hA p (List.mem_append_left _ hp), k2, k3⟩), (let ⟨rows, k1, k2, k3⟩ := o_lent w; ⟨rows, k1.rd fun p hp => hA p (List.mem_append_right _ (List.mem_append_left _ hp)), k2, k3⟩), (o_steps.readA fun p hp => hA p (List.mem_append_right _ (List.mem_append_right _ hp)))⟩
def ToB (c : BlockD) : Prop := ∀ (v : World) (f : Sl), Read v f c.steps → InI c.result → Mk Tryz.prog 80 #[.agg #[f.val, .int .i64 c.result]] v fun r J => ∃ y : Sl, r = .agg #[y.val, .int .i64 c.result] ∧ DatO.own [y.val, intV c.result] c J
section
variable {u v w : World} {x y : Sl} {b i : Int}
theorem c_toBlockS {l : List BlockD} (H : ∀ k ∈ l, ToB k) (hx : Read v x l) : Mk Tryz.prog 150 #[x.val] v fun r J => ∃ y, r = y.val ∧ OwnD y l J := by
  refine of150 _ _ _ ?_
  unfold vc150
  have hn := hx.n
  have hl := hx.le
  refine St.make (α := BlockD) (default : BlockD) (.refl v) (block_cells.2 ⟨⟨none, 0, 0⟩, rfl, zero_in, ReadB.nil⟩) (by omega) (by omega) (by decide) ?_
  intro y w1 J1 hO hS hs
  have hP0 : OwnG (fun j r => r.length = 2) 0 y l J1 := by
    obtain ⟨rows, k1, k2, k3⟩ := hO
    have hrl : rows.length = l.length := by have := k2.1; simp at this; omega
    refine .start k1 hrl (fun j r hr => ?_) hl
    have hj : j < rows.length := (List.getElem?_eq_some_iff.1 hr).1
    exact Dat.len (k2.2 j r _ hr (by rw [List.getElem?_eq_getElem (by simp; omega)]))
  refine ⟨_, rfl, ?_⟩
  refine ⟨fun i w => ∃ I, OwnG (fun j r => r.length = 2) i.toNat y l I ∧ St v w (I ++ []) ∧ 0 ≤ i ∧ i ≤ l.length, fun i _ => (l.length - i).toNat, ⟨J1, hP0, hS, by omega, by omega⟩, ?_⟩
  clear hO hS hP0
  rintro i w ⟨I, hO, hS, h0, h1⟩
  dsimp only
  refine ⟨fun hi => ?_, fun hi => ?_⟩
  · simp only [bls] at hi
    refine go_ix hx h0 (by omega) ?_
    obtain ⟨f_steps, e1, e2, i1, r1⟩ := (hx.src hS.sub).ofBlockD h0 (by omega)
    refine ⟨f_steps, _, ⟨e1, e2⟩, ?_⟩
    refine Mk.use (H _ (nth_mem h0 (by omega)) v f_steps r1 i1) hS ?_
    rintro _ w2 J2 ⟨t_steps, rfl, hT⟩ hS hsub
    refine ⟨t_steps, _, rfl, hO.ix h0 (by omega), ?_⟩
    refine hO.step hS h0 (by omega) (Nat.le_of_ble_eq_true rfl) (fun r hr => ?_) ?_
    · match r, hr with
      | [_, _], _ => exact hT
    intro w3 I3 hO3 hS
    refine go_wr (by omega) (by omega) ?_
    exact ⟨⟨I3, hO3, hS, by omega, by omega⟩, by omega⟩
  · simp only [bls] at hi
    rw [show i.toNat = l.length from by omega] at hO
    exact ⟨I, by simpa using hS, y, rfl, hO.done⟩
theorem c_toStep {c : StepD} (H : ∀ k ∈ c.kids, ToB k) {f_args f_kids : Sl} (i1 : InI c.op) (i2 : InI c.num) (i3 : InI c.into) (r_args : Read v f_args c.args) (r_kids : Read v f_kids c.kids) : Mk Tryz.prog 134 #[.agg #[.int .i64 c.op, .int .i64 c.num, .int .i64 c.into, f_args.val, f_kids.val]] v fun r J => ∃ y_args y_kids : Sl, r = .agg #[.int .i64 c.op, .int .i64 c.num, .int .i64 c.into, y_args.val, y_kids.val] ∧ DatO.own [intV c.op, intV c.num, intV c.into, y_args.val, y_kids.val] c J := by
  refine of134 _ _ _ _ _ _ _ ?_
  unfold vc134
  refine Mk.use (c_toIntS r_args) (.refl v) ?_
  rintro _ w1 J1 ⟨y_args, rfl, o_args⟩ hS _
  refine ⟨_, rfl, ?_⟩
  refine Mk.use (c_toBlockS H r_kids) hS ?_
  rintro _ w2 J2 ⟨y_kids, rfl, o_kids⟩ hS _
  refine ⟨_, rfl, ?_⟩
  exact ⟨J1 ++ J2, (hS.to : St v w2 (J1 ++ (J2 ++ []))).perm (by simp), y_args, y_kids, rfl, step_own.2 ⟨y_args, y_kids, J1, J2, rfl, i1, i2, i3, o_args.toAll, o_kids, rfl⟩⟩
theorem c_toStepS {l : List StepD} (H : ∀ s ∈ l, ∀ k ∈ s.kids, ToB k) (hx : Read v x l) : Mk Tryz.prog 110 #[x.val] v fun r J => ∃ y, r = y.val ∧ OwnD y l J := by
  refine of110 _ _ _ ?_
  unfold vc110
  have hn := hx.n
  have hl := hx.le
  refine St.make (α := StepD) (default : StepD) (.refl v) (step_cells.2 ⟨⟨none, 0, 0⟩, ⟨none, 0, 0⟩, rfl, zero_in, zero_in, zero_in, ReadB.nil, ReadB.nil⟩) (by omega) (by omega) (by decide) ?_
  intro y w1 J1 hO hS hs
  have hP0 : OwnG (fun j r => r.length = 5) 0 y l J1 := by
    obtain ⟨rows, k1, k2, k3⟩ := hO
    have hrl : rows.length = l.length := by have := k2.1; simp at this; omega
    refine .start k1 hrl (fun j r hr => ?_) hl
    have hj : j < rows.length := (List.getElem?_eq_some_iff.1 hr).1
    exact Dat.len (k2.2 j r _ hr (by rw [List.getElem?_eq_getElem (by simp; omega)]))
  refine ⟨_, rfl, ?_⟩
  refine ⟨fun i w => ∃ I, OwnG (fun j r => r.length = 5) i.toNat y l I ∧ St v w (I ++ []) ∧ 0 ≤ i ∧ i ≤ l.length, fun i _ => (l.length - i).toNat, ⟨J1, hP0, hS, by omega, by omega⟩, ?_⟩
  clear hO hS hP0
  rintro i w ⟨I, hO, hS, h0, h1⟩
  dsimp only
  refine ⟨fun hi => ?_, fun hi => ?_⟩
  · simp only [bls] at hi
    refine go_ix hx h0 (by omega) ?_
    obtain ⟨f1, f2, e1, e2, e3, e4, e5, i1, i2, i3, r1, r2⟩ := (hx.src hS.sub).ofStepD h0 (by omega)
    refine ⟨_, _, _, f1, f2, ⟨e1, e2, e3, e4, e5⟩, ?_⟩
    refine Mk.use (c_toStep (c := nth l i) (H _ (nth_mem h0 (by omega))) i1 i2 i3 r1 r2) hS ?_
    rintro _ w2 J2 ⟨t1, t2, rfl, hT⟩ hS hsub
    refine ⟨_, _, _, t1, t2, rfl, hO.ix h0 (by omega), ?_⟩
    refine hO.step hS h0 (by omega) (Nat.le_of_ble_eq_true rfl) (fun r hr => ?_) ?_
    · match r, hr with
      | [_, _, _, _, _], _ => exact hT
    intro w3 I3 hO3 hS
    refine go_wr (by omega) (by omega) ?_
    exact ⟨⟨I3, hO3, hS, by omega, by omega⟩, by omega⟩
  · simp only [bls] at hi
    rw [show i.toNat = l.length from by omega] at hO
    exact ⟨I, by simpa using hS, y, rfl, hO.done⟩
theorem c_toBlock (c : BlockD) : ToB c := by
  refine blk_ind (P := ToB) (fun c ih => ?_) c
  intro v f hf hi
  refine of80 _ _ _ _ ?_
  unfold vc80
  refine Mk.use (c_toStepS ih hf) (.refl v) ?_
  rintro _ w1 J1 ⟨y, rfl, o⟩ hS _
  exact ⟨y, rfl, J1, by simpa using hS, y, rfl, block_own.2 ⟨y, rfl, hi, o⟩⟩
theorem c_toRoutine {c : RoutD} {f_params f_lent f_steps : Sl} (i1 : InI c.result) (i2 : InI c.body.result) (r_params : Read v f_params c.params) (r_lent : Read v f_lent c.lent) (r_steps : Read v f_steps c.body.steps) : Mk Tryz.prog 53 #[.agg #[f_params.val, f_lent.val, .int .i64 c.result, f_steps.val, .int .i64 c.body.result]] v fun r J => ∃ y_params y_lent y_steps : Sl, r = .agg #[y_params.val, y_lent.val, .int .i64 c.result, y_steps.val, .int .i64 c.body.result] ∧ DatO.own [y_params.val, y_lent.val, intV c.result, y_steps.val, intV c.body.result] c J := by
  refine of53 _ _ _ _ _ _ _ ?_
  unfold vc53
  refine Mk.use (c_toIntS r_params) (.refl v) ?_
  rintro _ w1 J1 ⟨y_params, rfl, o_params⟩ hS _
  refine ⟨_, rfl, ?_⟩
  refine Mk.use (c_toIntS r_lent) hS ?_
  rintro _ w2 J2 ⟨y_lent, rfl, o_lent⟩ hS _
  refine ⟨_, rfl, ?_⟩
  refine Mk.use (c_toBlock c.body v f_steps r_steps i2) hS ?_
  rintro _ w3 J3 ⟨y_steps, rfl, o_body⟩ hS _
  refine ⟨_, _, rfl, ?_⟩
  obtain ⟨z, hz, _, o_steps⟩ := block_own.1 o_body
  have hzz : z = y_steps := by
    have h1 : y_steps.val = z.val := (List.cons.inj hz).1
    obtain ⟨a1, a2, a3⟩ := z
    obtain ⟨b1, b2, b3⟩ := y_steps
    simp only [Sl.val, Value.slice.injEq] at h1
    obtain ⟨h1, h2, h3⟩ := h1
    subst h1 h2 h3
    rfl
  subst hzz
  exact ⟨J1 ++ (J2 ++ J3), (hS.to : St v w3 (J1 ++ (J2 ++ (J3 ++ [])))).perm (by simp), y_params, y_lent, z, rfl, y_params, y_lent, z, J1, J2, J3, rfl, i1, i2, o_params.toAll, o_lent.toAll, o_steps, rfl⟩
theorem c_toRoutineS {l : List RoutD}  (hx : Read v x l) : Mk Tryz.prog 31 #[x.val] v fun r J => ∃ y, r = y.val ∧ OwnD y l J := by
  refine of31 _ _ _ ?_
  unfold vc31
  have hn := hx.n
  have hl := hx.le
  refine St.make (α := RoutD) (default : RoutD) (.refl v) (⟨⟨none, 0, 0⟩, ⟨none, 0, 0⟩, ⟨none, 0, 0⟩, rfl, zero_in, zero_in, ReadB.nil, ReadB.nil, ReadB.nil⟩) (by omega) (by omega) (by decide) ?_
  intro y w1 J1 hO hS hs
  have hP0 : OwnG (fun j r => r.length = 5) 0 y l J1 := by
    obtain ⟨rows, k1, k2, k3⟩ := hO
    have hrl : rows.length = l.length := by have := k2.1; simp at this; omega
    refine .start k1 hrl (fun j r hr => ?_) hl
    have hj : j < rows.length := (List.getElem?_eq_some_iff.1 hr).1
    exact Dat.len (k2.2 j r _ hr (by rw [List.getElem?_eq_getElem (by simp; omega)]))
  refine ⟨_, rfl, ?_⟩
  refine ⟨fun i w => ∃ I, OwnG (fun j r => r.length = 5) i.toNat y l I ∧ St v w (I ++ []) ∧ 0 ≤ i ∧ i ≤ l.length, fun i _ => (l.length - i).toNat, ⟨J1, hP0, hS, by omega, by omega⟩, ?_⟩
  clear hO hS hP0
  rintro i w ⟨I, hO, hS, h0, h1⟩
  dsimp only
  refine ⟨fun hi => ?_, fun hi => ?_⟩
  · simp only [bls] at hi
    refine go_ix hx h0 (by omega) ?_
    obtain ⟨f1, f2, f3, e1, e2, e3, e4, e5, i1, i2, r1, r2, r3⟩ := (hx.src hS.sub).ofRoutD h0 (by omega)
    refine ⟨f1, f2, _, f3, _, ⟨e1, e2, e3, e4, e5⟩, ?_⟩
    refine Mk.use (c_toRoutine (c := nth l i) i1 i2 r1 r2 r3) hS ?_
    rintro _ w2 J2 ⟨t1, t2, t3, rfl, hT⟩ hS hsub
    refine ⟨t1, t2, _, t3, _, rfl, hO.ix h0 (by omega), ?_⟩
    refine hO.step hS h0 (by omega) (Nat.le_of_ble_eq_true rfl) (fun r hr => ?_) ?_
    · match r, hr with
      | [_, _, _, _, _], _ => exact hT
    intro w3 I3 hO3 hS
    refine go_wr (by omega) (by omega) ?_
    exact ⟨⟨I3, hO3, hS, by omega, by omega⟩, by omega⟩
  · simp only [bls] at hi
    rw [show i.toNat = l.length from by omega] at hO
    exact ⟨I, by simpa using hS, y, rfl, hO.done⟩
theorem c_toNormal {x y : Sl} {ds : List DeclD} {rs : List RoutD} (hx : Read v x ds) (hy : Read v y rs) : Mk Tryz.prog 10 #[.agg #[x.val, y.val]] v fun r J => ∃ t s I K, r = .agg #[t.val, s.val] ∧ OwnD t ds I ∧ OwnD s rs K ∧ J = I ++ K := by
  refine of10 _ _ _ _ ?_
  unfold vc10
  refine Mk.use (c_toDeclS hx) (.refl v) ?_
  rintro _ w1 J1 ⟨t, rfl, o1⟩ hS _
  refine ⟨_, rfl, ?_⟩
  refine Mk.use (c_toRoutineS hy) hS ?_
  rintro _ w2 J2 ⟨s, rfl, o2⟩ hS _
  exact ⟨s, rfl, J1 ++ J2, (hS.to : St v w2 (J1 ++ (J2 ++ []))).perm (by simp), t, s, J1, J2, rfl, o1, o2, rfl⟩
end
end Go.Vc

namespace Go.Vc
open Go Go.Proofs Go.RowKit
set_option linter.all false
mutual
def roomBk : BlockD → Nat
  | ⟨ss, _⟩ => roomSs ss + 1
def roomSs : List (StepP BlockD) → Nat
  | [] => 0
  | s :: r => roomSt s + roomSs r
def roomSt : StepP BlockD → Nat
  | ⟨_, _, _, args, kids⟩ => 1 + 1 + 1 + args.length + roomKs kids
def roomKs : List BlockD → Nat
  | [] => 0
  | b :: r => roomBk b + roomKs r
end
mutual
def markBk : Int → BlockD → BlockD
  | n, ⟨ss, _⟩ => ⟨markSs n ss, n + roomSs ss⟩
def markSs : Int → List (StepP BlockD) → List (StepP BlockD)
  | _, [] => []
  | n, s :: r => markSt n s :: markSs (n + roomSt s) r
def markSt : Int → StepP BlockD → StepP BlockD
  | n, ⟨_, _, _, args, kids⟩ => ⟨n, n + 1, n + 1 + 1, marks (n + 1 + 1 + 1) args.length, markKs (n + 1 + 1 + 1 + args.length) kids⟩
def markKs : Int → List BlockD → List BlockD
  | _, [] => []
  | n, b :: r => markBk n b :: markKs (n + roomBk b) r
end
instance : Mark BlockD := ⟨roomBk, markBk⟩
instance : Mark StepD := ⟨roomSt, markSt⟩
instance : Mark RoutD := ⟨fun c => c.params.length + c.lent.length + 1 + rooms c.body.steps + 1, fun n c => ⟨marks (n) c.params.length, marks (n + c.params.length) c.lent.length, n + c.params.length + c.lent.length, ⟨markL (n + c.params.length + c.lent.length + 1) c.body.steps, n + c.params.length + c.lent.length + 1 + rooms c.body.steps⟩⟩⟩
theorem roomSs_eq : ∀ l : List StepD, roomSs l = rooms l
  | [] => by rw [roomSs]; rfl
  | s :: r => by rw [roomSs, roomSs_eq r, rooms_cons]; rfl
theorem roomKs_eq : ∀ l : List BlockD, roomKs l = rooms l
  | [] => by rw [roomKs]; rfl
  | s :: r => by rw [roomKs, roomKs_eq r, rooms_cons]; rfl
theorem markSs_eq : ∀ (l : List StepD) (n : Int), markSs n l = markL n l
  | [], n => by rw [markSs]; rfl
  | s :: r, n => by rw [markSs, markSs_eq r]; rfl
theorem markKs_eq : ∀ (l : List BlockD) (n : Int), markKs n l = markL n l
  | [], n => by rw [markKs]; rfl
  | s :: r, n => by rw [markKs, markKs_eq r]; rfl
theorem room_Block (c : BlockD) : Mark.room c = rooms c.steps + 1 := by
  cases c
  show roomBk _ = _
  rw [roomBk, roomSs_eq]
theorem room_Step (c : StepD) : Mark.room c = 1 + 1 + 1 + c.args.length + rooms c.kids := by
  cases c
  show roomSt _ = _
  rw [roomSt, roomKs_eq]
theorem room_Routine (c : RoutD) : Mark.room c = c.params.length + c.lent.length + 1 + rooms c.body.steps + 1 := rfl
theorem mark_Block (n : Int) (c : BlockD) : Mark.mark n c = ⟨markL (n) c.steps, n + rooms c.steps⟩ := by
  cases c
  show markBk _ _ = _
  rw [markBk, markSs_eq, roomSs_eq]
theorem mark_Step (n : Int) (c : StepD) : Mark.mark n c = ⟨n, n + 1, n + 1 + 1, marks (n + 1 + 1 + 1) c.args.length, markL (n + 1 + 1 + 1 + c.args.length) c.kids⟩ := by
  cases c
  show markSt _ _ = _
  rw [markSt, markKs_eq]
theorem mark_Routine (n : Int) (c : RoutD) : Mark.mark n c = ⟨marks (n) c.params.length, marks (n + c.params.length) c.lent.length, n + c.params.length + c.lent.length, ⟨markL (n + c.params.length + c.lent.length + 1) c.body.steps, n + c.params.length + c.lent.length + 1 + rooms c.body.steps⟩⟩ := rfl
def MkB (b : BlockD) : Prop := ∀ (u w : World) (x : Sl) (n : Int) (I R : Items), OwnD x b.steps I → St u w (I ++ R) → 0 ≤ n → n + rooms b.steps ≤ 1000000000000000 →
  Trip Tryz.prog 64 #[x.val, .int .i64 n] w fun r w' => ∃ I', r = .int .i64 (n + rooms b.steps) ∧ OwnD x (markL n b.steps) I' ∧ St u w' (I' ++ R)
section
variable {u v w : World} {x y : Sl} {l m : List BlockD} {n b i : Int} {I J L R : Items}
theorem c_markBlockS (H : ∀ k ∈ l, MkB k) (hO : OwnD x l I) (hS : St u w (I ++ R)) (n0 : 0 ≤ n) (n1 : n + rooms l ≤ 1000000000000000) :
    Trip Tryz.prog 94 #[x.val, .int .i64 n] w fun r w' => ∃ I', r = .int .i64 (n + rooms l) ∧ OwnD x (markL n l) I' ∧ St u w' (I' ++ R) := by
  refine of94 _ _ _ _ ?_
  unfold vc94
  have hn := hO.n
  have hle0 := hO.le
  refine ⟨fun n3 i w => ∃ (p r : List BlockD) (I : Items), l = p ++ r ∧ i = p.length ∧ n3 = n + rooms p ∧ OwnD x (markL n p ++ r) I ∧ St u w (I ++ R), fun _ i _ => (l.length - i).toNat, ⟨[], l, I, rfl, rfl, by simp [rooms], hO, hS⟩, ?_⟩
  clear hO hS
  rintro n3 i w ⟨p, r, I, hpr, rfl, rfl, hO, hS⟩
  dsimp only
  have hle : l.length = p.length + r.length := by rw [hpr, List.length_append]
  have hml := markL_len p n
  refine ⟨fun hi => ?_, fun hi => ?_⟩
  · simp only [bls] at hi
    obtain ⟨c, r, rfl⟩ : ∃ c r', r = c :: r' := by
      cases r with
      | nil => simp at hle; omega
      | cons c r => exact ⟨c, r, rfl⟩
    simp only [List.length_cons] at hle
    have hcm : c ∈ l := by rw [hpr]; simp
    have hrm : rooms l = rooms p + (Mark.room c + rooms r) := by rw [hpr, rooms_app, rooms_cons]
    have hroom := room_Block c
    have hi0 : (0 : Int) ≤ (p.length : Int) := by omega
    have hlt : ∀ d : BlockD, (p.length : Int) < (markL n p ++ d :: r).length := fun d => by simp; omega
    have hpm : (p.length : Int) = (markL n p).length := by rw [hml]
    have hsn := markL_snoc p c n
    rw [mark_Block] at hsn
    have hrs : rooms (p ++ [c]) = rooms p + Mark.room c := by rw [rooms_app, rooms_one]
    generalize he : n + (rooms p : Int) = e at *
    refine ⟨hO.ix hi0 (hlt _), ?_⟩
    obtain ⟨row, K, Rest, hrow, hperm, hcell, hput⟩ := hO.borrow hi0 (hlt _)
    rw [nth_mid _ _ _ hpm] at hrow
    obtain ⟨f_steps, rfl, q_result, o_steps⟩ := block_own.1 hrow
    have hS2 : St u _ (K ++ (Rest ++ R)) := hS.perm (by
      classical
      have hc := hperm.count_eq
      exact List.perm_iff_count.2 fun a => by have := hc a; simp only [List.count_append] at *; omega)
    refine ⟨f_steps, hcell _ (hS2.items (I := Rest)) 0 _ rfl, ?_⟩
    refine Trip.mono' (H c hcm u _ f_steps _ _ _ o_steps hS2 (by omega) (by omega)) ?_
    rintro _ w0 ⟨K'_steps, rfl, o'_steps, hS⟩
    replace hO := hput (⟨markL (e) c.steps, c.result⟩ : BlockD) (K'_steps) (block_own.2 ⟨f_steps, rfl, q_result, o'_steps⟩)
    rw [set_mid _ _ _ _ hpm] at hO
    replace hS : St u w0 ((K'_steps ++ Rest) ++ R) := hS.perm (by
      classical
      exact List.perm_iff_count.2 fun a => by simp only [List.count_append]; omega)
    refine ⟨_, rfl, ?_⟩
    refine ⟨hO.ix hi0 (hlt _), ?_⟩
    refine OwnD.store hO hS hi0 (hlt _) (⟨markL (e) c.steps, e + rooms c.steps⟩ : BlockD) [] (Nat.le_of_ble_eq_true rfl) (fun r' K hr => ?_) ?_
    · rw [nth_mid _ _ _ hpm] at hr
      obtain ⟨f_steps, rfl, q_result, o_steps⟩ := block_own.1 hr
      exact ⟨_, (block_own.2 ⟨f_steps, rfl, (show InI (e + rooms c.steps) from ⟨by omega, by omega⟩), o_steps⟩), .inr ⟨rfl, rfl⟩⟩
    intro w1 I1 hO hS
    rw [List.append_nil, set_mid _ _ _ _ hpm] at hO
    refine go_wr (by omega) (by omega) ?_
    refine go_wr (by omega) (by omega) ?_
    refine ⟨⟨p ++ [c], r, _, by rw [hpr]; simp, by simp, by rw [hrs]; omega, ?_, hS⟩, by omega⟩
    rw [hsn, List.append_assoc]
    exact hO
  · simp only [bls] at hi
    have hr : r = [] := List.eq_nil_of_length_eq_zero (by omega)
    subst hr
    rw [List.append_nil] at hpr hO
    subst hpr
    exact ⟨I, rfl, hO, hS⟩
end
section
variable {u v w : World} {x y : Sl} {l m : List StepD} {n b i : Int} {I J L R : Items}
theorem c_markStepS (H : ∀ s ∈ l, ∀ k ∈ s.kids, MkB k) (hO : OwnD x l I) (hS : St u w (I ++ R)) (n0 : 0 ≤ n) (n1 : n + rooms l ≤ 1000000000000000) :
    Trip Tryz.prog 64 #[x.val, .int .i64 n] w fun r w' => ∃ I', r = .int .i64 (n + rooms l) ∧ OwnD x (markL n l) I' ∧ St u w' (I' ++ R) := by
  refine of64 _ _ _ _ ?_
  unfold vc64
  have hn := hO.n
  have hle0 := hO.le
  refine ⟨fun n3 i w => ∃ (p r : List StepD) (I : Items), l = p ++ r ∧ i = p.length ∧ n3 = n + rooms p ∧ OwnD x (markL n p ++ r) I ∧ St u w (I ++ R), fun _ i _ => (l.length - i).toNat, ⟨[], l, I, rfl, rfl, by simp [rooms], hO, hS⟩, ?_⟩
  clear hO hS
  rintro n3 i w ⟨p, r, I, hpr, rfl, rfl, hO, hS⟩
  dsimp only
  have hle : l.length = p.length + r.length := by rw [hpr, List.length_append]
  have hml := markL_len p n
  refine ⟨fun hi => ?_, fun hi => ?_⟩
  · simp only [bls] at hi
    obtain ⟨c, r, rfl⟩ : ∃ c r', r = c :: r' := by
      cases r with
      | nil => simp at hle; omega
      | cons c r => exact ⟨c, r, rfl⟩
    simp only [List.length_cons] at hle
    have hcm : c ∈ l := by rw [hpr]; simp
    have hrm : rooms l = rooms p + (Mark.room c + rooms r) := by rw [hpr, rooms_app, rooms_cons]
    have hroom := room_Step c
    have hi0 : (0 : Int) ≤ (p.length : Int) := by omega
    have hlt : ∀ d : StepD, (p.length : Int) < (markL n p ++ d :: r).length := fun d => by simp; omega
    have hpm : (p.length : Int) = (markL n p).length := by rw [hml]
    have hsn := markL_snoc p c n
    rw [mark_Step] at hsn
    have hrs : rooms (p ++ [c]) = rooms p + Mark.room c := by rw [rooms_app, rooms_one]
    generalize he : n + (rooms p : Int) = e at *
    refine ⟨hO.ix hi0 (hlt _), ?_⟩
    refine OwnD.store hO hS hi0 (hlt _) (⟨e, c.num, c.into, c.args, c.kids⟩ : StepD) [] (Nat.le_of_ble_eq_true rfl) (fun r' K hr => ?_) ?_
    · rw [nth_mid _ _ _ hpm] at hr
      obtain ⟨f_args, f_kids, K_args, K_kids, rfl, q_op, q_num, q_into, o_args, o_kids, rfl⟩ := step_own.1 hr
      exact ⟨_, (step_own.2 ⟨f_args, f_kids, _, _, rfl, (show InI (e) from ⟨by omega, by omega⟩), q_num, q_into, o_args, o_kids, rfl⟩), .inr ⟨rfl, rfl⟩⟩
    intro w0 I0 hO hS
    rw [List.append_nil, set_mid _ _ _ _ hpm] at hO
    refine go_wr (by omega) (by omega) ?_
    refine ⟨hO.ix hi0 (hlt _), ?_⟩
    refine OwnD.store hO hS hi0 (hlt _) (⟨e, e + 1, c.into, c.args, c.kids⟩ : StepD) [] (Nat.le_of_ble_eq_true rfl) (fun r' K hr => ?_) ?_
    · rw [nth_mid _ _ _ hpm] at hr
      obtain ⟨f_args, f_kids, K_args, K_kids, rfl, q_op, q_num, q_into, o_args, o_kids, rfl⟩ := step_own.1 hr
      exact ⟨_, (step_own.2 ⟨f_args, f_kids, _, _, rfl, q_op, (show InI (e + 1) from ⟨by omega, by omega⟩), q_into, o_args, o_kids, rfl⟩), .inr ⟨rfl, rfl⟩⟩
    intro w1 I1 hO hS
    rw [List.append_nil, set_mid _ _ _ _ hpm] at hO
    refine go_wr (by omega) (by omega) ?_
    refine ⟨hO.ix hi0 (hlt _), ?_⟩
    refine OwnD.store hO hS hi0 (hlt _) (⟨e, e + 1, e + 1 + 1, c.args, c.kids⟩ : StepD) [] (Nat.le_of_ble_eq_true rfl) (fun r' K hr => ?_) ?_
    · rw [nth_mid _ _ _ hpm] at hr
      obtain ⟨f_args, f_kids, K_args, K_kids, rfl, q_op, q_num, q_into, o_args, o_kids, rfl⟩ := step_own.1 hr
      exact ⟨_, (step_own.2 ⟨f_args, f_kids, _, _, rfl, q_op, q_num, (show InI (e + 1 + 1) from ⟨by omega, by omega⟩), o_args, o_kids, rfl⟩), .inr ⟨rfl, rfl⟩⟩
    intro w2 I2 hO hS
    rw [List.append_nil, set_mid _ _ _ _ hpm] at hO
    refine go_wr (by omega) (by omega) ?_
    refine ⟨hO.ix hi0 (hlt _), ?_⟩
    obtain ⟨row, K, Rest, hrow, hperm, hcell, hput⟩ := hO.borrow hi0 (hlt _)
    rw [nth_mid _ _ _ hpm] at hrow
    obtain ⟨f_args, f_kids, K_args, K_kids, rfl, q_op, q_num, q_into, o_args, o_kids, rfl⟩ := step_own.1 hrow
    have hS2 : St u _ (K_args ++ (K_kids ++ (Rest ++ R))) := hS.perm (by
      classical
      have hc := hperm.count_eq
      exact List.perm_iff_count.2 fun a => by have := hc a; simp only [List.count_append] at *; omega)
    refine ⟨f_args, hcell _ (hS2.items (I := Rest)) 3 _ rfl, ?_⟩
    refine Trip.mono' (c_markIntS (l := c.args) (o_args u) hS2 (by omega) (by omega)) ?_
    rintro _ w3 ⟨K'_args, rfl, o'_args, hS⟩
    replace hO := hput (⟨e, e + 1, e + 1 + 1, marks (e + 1 + 1 + 1) c.args.length, c.kids⟩ : StepD) (K'_args ++ K_kids) (step_own.2 ⟨f_args, f_kids, _, _, rfl, q_op, q_num, q_into, o'_args.toAll, o_kids, rfl⟩)
    rw [set_mid _ _ _ _ hpm] at hO
    replace hS : St u w3 (((K'_args ++ K_kids) ++ Rest) ++ R) := hS.perm (by
      classical
      exact List.perm_iff_count.2 fun a => by simp only [List.count_append]; omega)
    refine ⟨_, rfl, ?_⟩
    refine ⟨hO.ix hi0 (hlt _), ?_⟩
    obtain ⟨row, K, Rest, hrow, hperm, hcell, hput⟩ := hO.borrow hi0 (hlt _)
    rw [nth_mid _ _ _ hpm] at hrow
    obtain ⟨f_args, f_kids, K_args, K_kids, rfl, q_op, q_num, q_into, o_args, o_kids, rfl⟩ := step_own.1 hrow
    have hS2 : St u _ (K_kids ++ (K_args ++ (Rest ++ R))) := hS.perm (by
      classical
      have hc := hperm.count_eq
      exact List.perm_iff_count.2 fun a => by have := hc a; simp only [List.count_append] at *; omega)
    refine ⟨f_kids, hcell _ (hS2.items (I := Rest)) 4 _ rfl, ?_⟩
    refine Trip.mono' (c_markBlockS (l := c.kids) (H c hcm) o_kids hS2 (by omega) (by omega)) ?_
    rintro _ w4 ⟨K'_kids, rfl, o'_kids, hS⟩
    replace hO := hput (⟨e, e + 1, e + 1 + 1, marks (e + 1 + 1 + 1) c.args.length, markL (e + 1 + 1 + 1 + c.args.length) c.kids⟩ : StepD) (K_args ++ K'_kids) (step_own.2 ⟨f_args, f_kids, _, _, rfl, q_op, q_num, q_into, o_args, o'_kids, rfl⟩)
    rw [set_mid _ _ _ _ hpm] at hO
    replace hS : St u w4 (((K_args ++ K'_kids) ++ Rest) ++ R) := hS.perm (by
      classical
      exact List.perm_iff_count.2 fun a => by simp only [List.count_append]; omega)
    refine ⟨_, rfl, ?_⟩
    refine go_wr (by omega) (by omega) ?_
    refine ⟨⟨p ++ [c], r, _, by rw [hpr]; simp, by simp, by rw [hrs]; omega, ?_, hS⟩, by omega⟩
    rw [hsn, List.append_assoc]
    exact hO
  · simp only [bls] at hi
    have hr : r = [] := List.eq_nil_of_length_eq_zero (by omega)
    subst hr
    rw [List.append_nil] at hpr hO
    subst hpr
    exact ⟨I, rfl, hO, hS⟩
end
section
variable {u v w : World} {x y : Sl} {l m : List RoutD} {n b i : Int} {I J L R : Items}
theorem c_markSteps (b : BlockD) : MkB b := by
  refine blk_ind (P := MkB) (fun b ih => ?_) b
  intro u w x n I R hO hS n0 n1
  exact c_markStepS ih hO hS n0 n1
theorem c_markRoutineS  (hO : OwnD x l I) (hS : St u w (I ++ R)) (n0 : 0 ≤ n) (n1 : n + rooms l ≤ 1000000000000000) :
    Trip Tryz.prog 41 #[x.val, .int .i64 n] w fun r w' => ∃ I', r = .int .i64 (n + rooms l) ∧ OwnD x (markL n l) I' ∧ St u w' (I' ++ R) := by
  refine of41 _ _ _ _ ?_
  unfold vc41
  have hn := hO.n
  have hle0 := hO.le
  refine ⟨fun n3 i w => ∃ (p r : List RoutD) (I : Items), l = p ++ r ∧ i = p.length ∧ n3 = n + rooms p ∧ OwnD x (markL n p ++ r) I ∧ St u w (I ++ R), fun _ i _ => (l.length - i).toNat, ⟨[], l, I, rfl, rfl, by simp [rooms], hO, hS⟩, ?_⟩
  clear hO hS
  rintro n3 i w ⟨p, r, I, hpr, rfl, rfl, hO, hS⟩
  dsimp only
  have hle : l.length = p.length + r.length := by rw [hpr, List.length_append]
  have hml := markL_len p n
  refine ⟨fun hi => ?_, fun hi => ?_⟩
  · simp only [bls] at hi
    obtain ⟨c, r, rfl⟩ : ∃ c r', r = c :: r' := by
      cases r with
      | nil => simp at hle; omega
      | cons c r => exact ⟨c, r, rfl⟩
    simp only [List.length_cons] at hle
    have hcm : c ∈ l := by rw [hpr]; simp
    have hrm : rooms l = rooms p + (Mark.room c + rooms r) := by rw [hpr, rooms_app, rooms_cons]
    have hroom := room_Routine c
    have hi0 : (0 : Int) ≤ (p.length : Int) := by omega
    have hlt : ∀ d : RoutD, (p.length : Int) < (markL n p ++ d :: r).length := fun d => by simp; omega
    have hpm : (p.length : Int) = (markL n p).length := by rw [hml]
    have hsn := markL_snoc p c n
    rw [mark_Routine] at hsn
    have hrs : rooms (p ++ [c]) = rooms p + Mark.room c := by rw [rooms_app, rooms_one]
    generalize he : n + (rooms p : Int) = e at *
    refine ⟨hO.ix hi0 (hlt _), ?_⟩
    obtain ⟨row, K, Rest, hrow, hperm, hcell, hput⟩ := hO.borrow hi0 (hlt _)
    rw [nth_mid _ _ _ hpm] at hrow
    obtain ⟨f_params, f_lent, f_steps, K_params, K_lent, K_steps, rfl, q_result, q_bres, o_params, o_lent, o_steps, rfl⟩ := hrow
    have hS2 : St u _ (K_params ++ (K_lent ++ (K_steps ++ (Rest ++ R)))) := hS.perm (by
      classical
      have hc := hperm.count_eq
      exact List.perm_iff_count.2 fun a => by have := hc a; simp only [List.count_append] at *; omega)
    refine ⟨f_params, hcell _ (hS2.items (I := Rest)) 0 _ rfl, ?_⟩
    refine Trip.mono' (c_markIntS (l := c.params) (o_params u) hS2 (by omega) (by omega)) ?_
    rintro _ w0 ⟨K'_params, rfl, o'_params, hS⟩
    replace hO := hput (⟨marks (e) c.params.length, c.lent, c.result, c.body.steps, c.body.result⟩ : RoutD) (K'_params ++ (K_lent ++ K_steps)) ⟨f_params, f_lent, f_steps, _, _, _, rfl, q_result, q_bres, o'_params.toAll, o_lent, o_steps, rfl⟩
    rw [set_mid _ _ _ _ hpm] at hO
    replace hS : St u w0 (((K'_params ++ (K_lent ++ K_steps)) ++ Rest) ++ R) := hS.perm (by
      classical
      exact List.perm_iff_count.2 fun a => by simp only [List.count_append]; omega)
    refine ⟨_, rfl, ?_⟩
    refine ⟨hO.ix hi0 (hlt _), ?_⟩
    obtain ⟨row, K, Rest, hrow, hperm, hcell, hput⟩ := hO.borrow hi0 (hlt _)
    rw [nth_mid _ _ _ hpm] at hrow
    obtain ⟨f_params, f_lent, f_steps, K_params, K_lent, K_steps, rfl, q_result, q_bres, o_params, o_lent, o_steps, rfl⟩ := hrow
    have hS2 : St u _ (K_lent ++ (K_params ++ (K_steps ++ (Rest ++ R)))) := hS.perm (by
      classical
      have hc := hperm.count_eq
      exact List.perm_iff_count.2 fun a => by have := hc a; simp only [List.count_append] at *; omega)
    refine ⟨f_lent, hcell _ (hS2.items (I := Rest)) 1 _ rfl, ?_⟩
    refine Trip.mono' (c_markIntS (l := c.lent) (o_lent u) hS2 (by omega) (by omega)) ?_
    rintro _ w1 ⟨K'_lent, rfl, o'_lent, hS⟩
    replace hO := hput (⟨marks (e) c.params.length, marks (e + c.params.length) c.lent.length, c.result, c.body.steps, c.body.result⟩ : RoutD) (K_params ++ (K'_lent ++ K_steps)) ⟨f_params, f_lent, f_steps, _, _, _, rfl, q_result, q_bres, o_params, o'_lent.toAll, o_steps, rfl⟩
    rw [set_mid _ _ _ _ hpm] at hO
    replace hS : St u w1 (((K_params ++ (K'_lent ++ K_steps)) ++ Rest) ++ R) := hS.perm (by
      classical
      exact List.perm_iff_count.2 fun a => by simp only [List.count_append]; omega)
    refine ⟨_, rfl, ?_⟩
    refine ⟨hO.ix hi0 (hlt _), ?_⟩
    refine OwnD.store hO hS hi0 (hlt _) (⟨marks (e) c.params.length, marks (e + c.params.length) c.lent.length, e + c.params.length + c.lent.length, c.body.steps, c.body.result⟩ : RoutD) [] (Nat.le_of_ble_eq_true rfl) (fun r' K hr => ?_) ?_
    · rw [nth_mid _ _ _ hpm] at hr
      obtain ⟨f_params, f_lent, f_steps, K_params, K_lent, K_steps, rfl, q_result, q_bres, o_params, o_lent, o_steps, rfl⟩ := hr
      exact ⟨_, ⟨f_params, f_lent, f_steps, _, _, _, rfl, (show InI (e + c.params.length + c.lent.length) from ⟨by omega, by omega⟩), q_bres, o_params, o_lent, o_steps, rfl⟩, .inr ⟨rfl, rfl⟩⟩
    intro w2 I2 hO hS
    rw [List.append_nil, set_mid _ _ _ _ hpm] at hO
    refine go_wr (by omega) (by omega) ?_
    refine ⟨hO.ix hi0 (hlt _), ?_⟩
    obtain ⟨row, K, Rest, hrow, hperm, hcell, hput⟩ := hO.borrow hi0 (hlt _)
    rw [nth_mid _ _ _ hpm] at hrow
    obtain ⟨f_params, f_lent, f_steps, K_params, K_lent, K_steps, rfl, q_result, q_bres, o_params, o_lent, o_steps, rfl⟩ := hrow
    have hS2 : St u _ (K_steps ++ (K_params ++ (K_lent ++ (Rest ++ R)))) := hS.perm (by
      classical
      have hc := hperm.count_eq
      exact List.perm_iff_count.2 fun a => by have := hc a; simp only [List.count_append] at *; omega)
    refine ⟨f_steps, hcell _ (hS2.items (I := Rest)) 3 _ rfl, ?_⟩
    refine Trip.mono' (c_markSteps c.body u _ f_steps _ _ _ o_steps hS2 (by omega) (by omega)) ?_
    rintro _ w3 ⟨K'_steps, rfl, o'_steps, hS⟩
    replace hO := hput (⟨marks (e) c.params.length, marks (e + c.params.length) c.lent.length, e + c.params.length + c.lent.length, markL (e + c.params.length + c.lent.length + 1) c.body.steps, c.body.result⟩ : RoutD) (K_params ++ (K_lent ++ K'_steps)) ⟨f_params, f_lent, f_steps, _, _, _, rfl, q_result, q_bres, o_params, o_lent, o'_steps, rfl⟩
    rw [set_mid _ _ _ _ hpm] at hO
    replace hS : St u w3 (((K_params ++ (K_lent ++ K'_steps)) ++ Rest) ++ R) := hS.perm (by
      classical
      exact List.perm_iff_count.2 fun a => by simp only [List.count_append]; omega)
    refine ⟨_, rfl, ?_⟩
    refine ⟨hO.ix hi0 (hlt _), ?_⟩
    refine OwnD.store hO hS hi0 (hlt _) (⟨marks (e) c.params.length, marks (e + c.params.length) c.lent.length, e + c.params.length + c.lent.length, markL (e + c.params.length + c.lent.length + 1) c.body.steps, e + c.params.length + c.lent.length + 1 + rooms c.body.steps⟩ : RoutD) [] (Nat.le_of_ble_eq_true rfl) (fun r' K hr => ?_) ?_
    · rw [nth_mid _ _ _ hpm] at hr
      obtain ⟨f_params, f_lent, f_steps, K_params, K_lent, K_steps, rfl, q_result, q_bres, o_params, o_lent, o_steps, rfl⟩ := hr
      exact ⟨_, ⟨f_params, f_lent, f_steps, _, _, _, rfl, q_result, (show InI (e + c.params.length + c.lent.length + 1 + rooms c.body.steps) from ⟨by omega, by omega⟩), o_params, o_lent, o_steps, rfl⟩, .inr ⟨rfl, rfl⟩⟩
    intro w4 I4 hO hS
    rw [List.append_nil, set_mid _ _ _ _ hpm] at hO
    refine go_wr (by omega) (by omega) ?_
    refine go_wr (by omega) (by omega) ?_
    refine ⟨⟨p ++ [c], r, _, by rw [hpr]; simp, by simp, by rw [hrs]; omega, ?_, hS⟩, by omega⟩
    rw [hsn, List.append_assoc]
    exact hO
  · simp only [bls] at hi
    have hr : r = [] := List.eq_nil_of_length_eq_zero (by omega)
    subst hr
    rw [List.append_nil] at hpr hO
    subst hpr
    exact ⟨I, rfl, hO, hS⟩
end
end Go.Vc
