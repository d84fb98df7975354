/- Part of the proofs about the heaps and memories: a law is joined in the text whose name ends in W and the law. -/
import Derived.Test.YtojmcdmbkfigaaaGreatEB5
import Derived.Test.YtojmcdmbkfigaaaGreatEB4
namespace Go.Vc
open Go Go.Proofs Go.RowKit
set_option linter.all false
/-- the reference's ledger in memory: its columns -/
def LstP (a : Addr) (lent : List Int) (σ : BalS) (P C F : List Int) (I : Items) : Prop := ∃ (x1 x2 x3 x4 x5 x6 x7 : Sl) (I0 J1 J2 J3 J4 J5 J6 J7 : Items), Cel a [x1.val, x2.val, x3.val, x4.val, x5.val, x6.val, x7.val] I0 ∧ OwnI x1 σ.vars J1 ∧ OwnI x2 σ.own J2 ∧ OwnI x3 P J3 ∧ OwnI x4 C J4 ∧ OwnI x5 F J5 ∧ OwnI x6 σ.tok J6 ∧ OwnI x7 lent J7 ∧ I = I0 ++ (J1 ++ (J2 ++ (J3 ++ (J4 ++ (J5 ++ (J6 ++ J7))))))
/-- .. read -/
def LRd (w : World) (a : Addr) (lent : List Int) (σ : BalS) (P C F : List Int) : Prop := ∃ (x1 x2 x3 x4 x5 x6 x7 : Sl), (w.cell? (a.add 0) = some x1.val ∧ Read w x1 σ.vars) ∧ (w.cell? (a.add 1) = some x2.val ∧ Read w x2 σ.own) ∧ (w.cell? (a.add 2) = some x3.val ∧ Read w x3 P) ∧ (w.cell? (a.add 3) = some x4.val ∧ Read w x4 C) ∧ (w.cell? (a.add 4) = some x5.val ∧ Read w x5 F) ∧ (w.cell? (a.add 5) = some x6.val ∧ Read w x6 σ.tok) ∧ (w.cell? (a.add 6) = some x7.val ∧ Read w x7 lent)
/-- where a field is bound from, by which constructor, and from which variable on -/
structure Lk (arms : List ArmK) (n : Nat) (P C F : List Int) : Prop where
  l1 : P.length = n
  l2 : C.length = n
  l3 : F.length = n
  par : ∀ v : Int, 0 ≤ v → v < n → nth P v = match armFor arms v with | some a => a.matched | none => -1
  con : ∀ v : Int, 0 ≤ v → v < n → match armOf arms v with | some a => nth C v = a.con ∧ nth F v = a.first | none => nth C v = -1
/-- the ledger at a place -/
def Lst (a : Addr) (arms : List ArmK) (lent : List Int) (σ : BalS) (I : Items) : Prop := ∃ P C F, LstP a lent σ P C F I ∧ Lk arms σ.vars.length P C F
section
variable {u w v0 : World} {a : Addr} {arms : List ArmK} {lent P C F P' C' F' : List Int} {σ σ' : BalS} {I R L : Items} {r n v t o m : Int} {x y s : Sl} {B : Nat} {ds : List DeclD} {rs : List RoutD}
theorem LstP.rd (hL : LstP a lent σ P C F I) (hS : St u w (I ++ R)) : LRd w a lent σ P C F := by
  obtain ⟨x1, x2, x3, x4, x5, x6, x7, I0, J1, J2, J3, J4, J5, J6, J7, hC, o1, o2, o3, o4, o5, o6, o7, rfl⟩ := hL
  replace hS : St u w (I0 ++ (J1 ++ (J2 ++ (J3 ++ (J4 ++ (J5 ++ (J6 ++ (J7 ++ R)))))))) := by simpa [List.append_assoc] using hS
  exact ⟨x1, x2, x3, x4, x5, x6, x7, ⟨hC.load hS rfl, o1.read hS⟩, ⟨hC.load hS rfl, o2.read hS⟩, ⟨hC.load hS rfl, o3.read hS⟩, ⟨hC.load hS rfl, o4.read hS⟩, ⟨hC.load hS rfl, o5.read hS⟩, ⟨hC.load hS rfl, o6.read hS⟩, ⟨hC.load hS rfl, o7.read hS⟩⟩
theorem LRd.mono {w2 : World} (h : LRd w a lent σ P C F) (hs : Sub w w2) : LRd w2 a lent σ P C F := let ⟨x1, x2, x3, x4, x5, x6, x7, h1, h2, h3, h4, h5, h6, h7⟩ := h; ⟨x1, x2, x3, x4, x5, x6, x7, ⟨cell_sub hs h1.1, h1.2.mono hs⟩, ⟨cell_sub hs h2.1, h2.2.mono hs⟩, ⟨cell_sub hs h3.1, h3.2.mono hs⟩, ⟨cell_sub hs h4.1, h4.2.mono hs⟩, ⟨cell_sub hs h5.1, h5.2.mono hs⟩, ⟨cell_sub hs h6.1, h6.2.mono hs⟩, ⟨cell_sub hs h7.1, h7.2.mono hs⟩⟩
theorem LRd.k1 (h : LRd w a lent σ P C F) : ∃ x : Sl, w.cell? (a.add 0) = some x.val ∧ Read w x σ.vars := let ⟨x1, x2, x3, x4, x5, x6, x7, h1, h2, h3, h4, h5, h6, h7⟩ := h; ⟨x1, h1⟩
theorem LRd.k2 (h : LRd w a lent σ P C F) : ∃ x : Sl, w.cell? (a.add 1) = some x.val ∧ Read w x σ.own := let ⟨x1, x2, x3, x4, x5, x6, x7, h1, h2, h3, h4, h5, h6, h7⟩ := h; ⟨x2, h2⟩
theorem LRd.k3 (h : LRd w a lent σ P C F) : ∃ x : Sl, w.cell? (a.add 2) = some x.val ∧ Read w x P := let ⟨x1, x2, x3, x4, x5, x6, x7, h1, h2, h3, h4, h5, h6, h7⟩ := h; ⟨x3, h3⟩
theorem LRd.k4 (h : LRd w a lent σ P C F) : ∃ x : Sl, w.cell? (a.add 3) = some x.val ∧ Read w x C := let ⟨x1, x2, x3, x4, x5, x6, x7, h1, h2, h3, h4, h5, h6, h7⟩ := h; ⟨x4, h4⟩
theorem LRd.k5 (h : LRd w a lent σ P C F) : ∃ x : Sl, w.cell? (a.add 4) = some x.val ∧ Read w x F := let ⟨x1, x2, x3, x4, x5, x6, x7, h1, h2, h3, h4, h5, h6, h7⟩ := h; ⟨x5, h5⟩
theorem LRd.k6 (h : LRd w a lent σ P C F) : ∃ x : Sl, w.cell? (a.add 5) = some x.val ∧ Read w x σ.tok := let ⟨x1, x2, x3, x4, x5, x6, x7, h1, h2, h3, h4, h5, h6, h7⟩ := h; ⟨x6, h6⟩
theorem LRd.k7 (h : LRd w a lent σ P C F) : ∃ x : Sl, w.cell? (a.add 6) = some x.val ∧ Read w x lent := let ⟨x1, x2, x3, x4, x5, x6, x7, h1, h2, h3, h4, h5, h6, h7⟩ := h; ⟨x7, h7⟩
theorem LstP.so2 (hL : LstP a lent σ P C F I) (hS : St u w (I ++ R)) : ∃ x : Sl, w.cell? (a.add 1) = some x.val ∧ Read w x σ.own ∧ ∀ {r n : Int} {K : World → Prop}, 0 ≤ r → r < σ.own.length → InI n → (∀ w' I', LstP a lent ⟨σ.vars, σ.own.set r.toNat n, σ.tok⟩ P C F I' → St u w' (I' ++ R) → K w') → StoreAt w (elA x r 1) 0 [.int .i64 n] K := by
  obtain ⟨x1, x2, x3, x4, x5, x6, x7, I0, J1, J2, J3, J4, J5, J6, J7, hC, o1, o2, o3, o4, o5, o6, o7, rfl⟩ := hL
  replace hS : St u w (I0 ++ (J1 ++ (J2 ++ (J3 ++ (J4 ++ (J5 ++ (J6 ++ (J7 ++ R)))))))) := by simpa [List.append_assoc] using hS
  refine ⟨x2, hC.load hS rfl, o2.read hS, fun {r n K} h0 h1 hn kk => ?_⟩
  refine st_int (o2 u) hS h0 h1 hn ?_
  intro w2 J hO hS
  exact kk w2 (I0 ++ (J1 ++ (J ++ (J3 ++ (J4 ++ (J5 ++ (J6 ++ J7))))))) ⟨x1, x2, x3, x4, x5, x6, x7, I0, J1, J, J3, J4, J5, J6, J7, hC, o1, hO.toI, o3, o4, o5, o6, o7, rfl⟩ (by simpa [List.append_assoc] using hS)
theorem LstP.so4 (hL : LstP a lent σ P C F I) (hS : St u w (I ++ R)) : ∃ x : Sl, w.cell? (a.add 3) = some x.val ∧ Read w x C ∧ ∀ {r n : Int} {K : World → Prop}, 0 ≤ r → r < C.length → InI n → (∀ w' I', LstP a lent σ P (C.set r.toNat n) F I' → St u w' (I' ++ R) → K w') → StoreAt w (elA x r 1) 0 [.int .i64 n] K := by
  obtain ⟨x1, x2, x3, x4, x5, x6, x7, I0, J1, J2, J3, J4, J5, J6, J7, hC, o1, o2, o3, o4, o5, o6, o7, rfl⟩ := hL
  replace hS : St u w (I0 ++ (J1 ++ (J2 ++ (J3 ++ (J4 ++ (J5 ++ (J6 ++ (J7 ++ R)))))))) := by simpa [List.append_assoc] using hS
  refine ⟨x4, hC.load hS rfl, o4.read hS, fun {r n K} h0 h1 hn kk => ?_⟩
  refine st_int (o4 u) hS h0 h1 hn ?_
  intro w2 J hO hS
  exact kk w2 (I0 ++ (J1 ++ (J2 ++ (J3 ++ (J ++ (J5 ++ (J6 ++ J7))))))) ⟨x1, x2, x3, x4, x5, x6, x7, I0, J1, J2, J3, J, J5, J6, J7, hC, o1, o2, o3, hO.toI, o5, o6, o7, rfl⟩ (by simpa [List.append_assoc] using hS)
theorem LstP.so5 (hL : LstP a lent σ P C F I) (hS : St u w (I ++ R)) : ∃ x : Sl, w.cell? (a.add 4) = some x.val ∧ Read w x F ∧ ∀ {r n : Int} {K : World → Prop}, 0 ≤ r → r < F.length → InI n → (∀ w' I', LstP a lent σ P C (F.set r.toNat n) I' → St u w' (I' ++ R) → K w') → StoreAt w (elA x r 1) 0 [.int .i64 n] K := by
  obtain ⟨x1, x2, x3, x4, x5, x6, x7, I0, J1, J2, J3, J4, J5, J6, J7, hC, o1, o2, o3, o4, o5, o6, o7, rfl⟩ := hL
  replace hS : St u w (I0 ++ (J1 ++ (J2 ++ (J3 ++ (J4 ++ (J5 ++ (J6 ++ (J7 ++ R)))))))) := by simpa [List.append_assoc] using hS
  refine ⟨x5, hC.load hS rfl, o5.read hS, fun {r n K} h0 h1 hn kk => ?_⟩
  refine st_int (o5 u) hS h0 h1 hn ?_
  intro w2 J hO hS
  exact kk w2 (I0 ++ (J1 ++ (J2 ++ (J3 ++ (J4 ++ (J ++ (J6 ++ J7))))))) ⟨x1, x2, x3, x4, x5, x6, x7, I0, J1, J2, J3, J4, J, J6, J7, hC, o1, o2, o3, o4, hO.toI, o6, o7, rfl⟩ (by simpa [List.append_assoc] using hS)
theorem LstP.so6 (hL : LstP a lent σ P C F I) (hS : St u w (I ++ R)) : ∃ x : Sl, w.cell? (a.add 5) = some x.val ∧ Read w x σ.tok ∧ ∀ {r n : Int} {K : World → Prop}, 0 ≤ r → r < σ.tok.length → InI n → (∀ w' I', LstP a lent ⟨σ.vars, σ.own, σ.tok.set r.toNat n⟩ P C F I' → St u w' (I' ++ R) → K w') → StoreAt w (elA x r 1) 0 [.int .i64 n] K := by
  obtain ⟨x1, x2, x3, x4, x5, x6, x7, I0, J1, J2, J3, J4, J5, J6, J7, hC, o1, o2, o3, o4, o5, o6, o7, rfl⟩ := hL
  replace hS : St u w (I0 ++ (J1 ++ (J2 ++ (J3 ++ (J4 ++ (J5 ++ (J6 ++ (J7 ++ R)))))))) := by simpa [List.append_assoc] using hS
  refine ⟨x6, hC.load hS rfl, o6.read hS, fun {r n K} h0 h1 hn kk => ?_⟩
  refine st_int (o6 u) hS h0 h1 hn ?_
  intro w2 J hO hS
  exact kk w2 (I0 ++ (J1 ++ (J2 ++ (J3 ++ (J4 ++ (J5 ++ (J ++ J7))))))) ⟨x1, x2, x3, x4, x5, x6, x7, I0, J1, J2, J3, J4, J5, J, J7, hC, o1, o2, o3, o4, o5, hO.toI, o7, rfl⟩ (by simpa [List.append_assoc] using hS)
theorem c_ledGrowP (hL : LstP a lent σ P C F I) (hS : St u w (I ++ R)) (hlen : σ.vars.length ≤ 1000000 ∧ σ.own.length ≤ 1000000 ∧ P.length ≤ 1000000 ∧ C.length ≤ 1000000 ∧ F.length ≤ 1000000 ∧ σ.tok.length ≤ 1000000) (ht : InI t) (ho : InI o) (hm : InI m) :
    Trip Tryz.prog 76 #[.pointer (some (a.add 0)), .int .i64 t, .int .i64 o, .int .i64 m] w fun r w' => r = .tuple #[] ∧ ∃ I', LstP a lent (growB σ t o) (P ++ [m]) (C ++ [-1]) (F ++ [-1]) I' ∧ St u w' (I' ++ R) := by
  refine of76 _ _ _ _ _ _ ?_
  unfold vc76
  obtain ⟨x1, x2, x3, x4, x5, x6, x7, I0, J1, J2, J3, J4, J5, J6, J7, hC, o1, o2, o3, o4, o5, o6, o7, rfl⟩ := hL
  replace hS : St u w (I0 ++ (J1 ++ (J2 ++ (J3 ++ (J4 ++ (J5 ++ (J6 ++ (J7 ++ R)))))))) := by simpa [List.append_assoc] using hS
  have hmi : InI (-1) := ⟨by omega, by omega⟩
  refine ⟨x1, hC.load hS rfl, ?_⟩
  refine St.build (α := Int) (l := [t]) hS (.cons (.int ht) .nil) rfl (by decide) ?_
  intro y1 w1 K1 hO1 hS hs1
  refine ⟨_, rfl, ?_⟩
  refine (o1 u).append hS (hO1.src hS) (by simp; omega) (by decide) ?_
  intro z1 w2 J1 hz1 hS
  refine ⟨_, rfl, ?_⟩
  refine hC.store hS (by simp) ?_
  intro w3 I0 hC hS
  simp [putR] at hC
  replace hS : St u w3 (I0 ++ (J1 ++ (J2 ++ (J3 ++ (J4 ++ (J5 ++ (J6 ++ (J7 ++ R)))))))) := hS.to
  clear hO1
  refine ⟨x2, hC.load hS rfl, ?_⟩
  refine St.build (α := Int) (l := [o]) hS (.cons (.int ho) .nil) rfl (by decide) ?_
  intro y2 w1 K1 hO1 hS hs1
  refine ⟨_, rfl, ?_⟩
  refine (o2 u).append hS (hO1.src hS) (by simp; omega) (by decide) ?_
  intro z2 w2 J2 hz2 hS
  refine ⟨_, rfl, ?_⟩
  refine hC.store hS (by simp) ?_
  intro w3 I0 hC hS
  simp [putR] at hC
  replace hS : St u w3 (I0 ++ (J1 ++ (J2 ++ (J3 ++ (J4 ++ (J5 ++ (J6 ++ (J7 ++ R)))))))) := hS.to
  clear hO1
  refine ⟨x3, hC.load hS rfl, ?_⟩
  refine St.build (α := Int) (l := [m]) hS (.cons (.int hm) .nil) rfl (by decide) ?_
  intro y3 w1 K1 hO1 hS hs1
  refine ⟨_, rfl, ?_⟩
  refine (o3 u).append hS (hO1.src hS) (by simp; omega) (by decide) ?_
  intro z3 w2 J3 hz3 hS
  refine ⟨_, rfl, ?_⟩
  refine hC.store hS (by simp) ?_
  intro w3 I0 hC hS
  simp [putR] at hC
  replace hS : St u w3 (I0 ++ (J1 ++ (J2 ++ (J3 ++ (J4 ++ (J5 ++ (J6 ++ (J7 ++ R)))))))) := hS.to
  clear hO1
  refine ⟨x4, hC.load hS rfl, ?_⟩
  refine St.build (α := Int) (l := [(-1)]) hS (.cons (.int hmi) .nil) rfl (by decide) ?_
  intro y4 w1 K1 hO1 hS hs1
  refine ⟨_, rfl, ?_⟩
  refine (o4 u).append hS (hO1.src hS) (by simp; omega) (by decide) ?_
  intro z4 w2 J4 hz4 hS
  refine ⟨_, rfl, ?_⟩
  refine hC.store hS (by simp) ?_
  intro w3 I0 hC hS
  simp [putR] at hC
  replace hS : St u w3 (I0 ++ (J1 ++ (J2 ++ (J3 ++ (J4 ++ (J5 ++ (J6 ++ (J7 ++ R)))))))) := hS.to
  clear hO1
  refine ⟨x5, hC.load hS rfl, ?_⟩
  refine St.build (α := Int) (l := [(-1)]) hS (.cons (.int hmi) .nil) rfl (by decide) ?_
  intro y5 w1 K1 hO1 hS hs1
  refine ⟨_, rfl, ?_⟩
  refine (o5 u).append hS (hO1.src hS) (by simp; omega) (by decide) ?_
  intro z5 w2 J5 hz5 hS
  refine ⟨_, rfl, ?_⟩
  refine hC.store hS (by simp) ?_
  intro w3 I0 hC hS
  simp [putR] at hC
  replace hS : St u w3 (I0 ++ (J1 ++ (J2 ++ (J3 ++ (J4 ++ (J5 ++ (J6 ++ (J7 ++ R)))))))) := hS.to
  clear hO1
  refine ⟨x6, hC.load hS rfl, ?_⟩
  refine St.build (α := Int) (l := [(-1)]) hS (.cons (.int hmi) .nil) rfl (by decide) ?_
  intro y6 w1 K1 hO1 hS hs1
  refine ⟨_, rfl, ?_⟩
  refine (o6 u).append hS (hO1.src hS) (by simp; omega) (by decide) ?_
  intro z6 w2 J6 hz6 hS
  refine ⟨_, rfl, ?_⟩
  refine hC.store hS (by simp) ?_
  intro w3 I0 hC hS
  simp [putR] at hC
  replace hS : St u w3 (I0 ++ (J1 ++ (J2 ++ (J3 ++ (J4 ++ (J5 ++ (J6 ++ (J7 ++ R)))))))) := hS.to
  clear hO1
  exact ⟨rfl, I0 ++ (J1 ++ (J2 ++ (J3 ++ (J4 ++ (J5 ++ (J6 ++ J7)))))), ⟨z1, z2, z3, z4, z5, z6, x7, I0, J1, J2, J3, J4, J5, J6, J7, hC, hz1.toI, hz2.toI, hz3.toI, hz4.toI, hz5.toI, hz6.toI, o7, rfl⟩, by simpa [List.append_assoc] using hS⟩
theorem c_ledTake (hL : LstP a lent σ P C F I) (hS : St u w (I ++ R)) (h0 : 0 ≤ v) (h1 : v < σ.own.length) :
    Trip Tryz.prog 77 #[.pointer (some (a.add 0)), .int .i64 v] w fun r w' => match takeB σ v with
      | none => r = .bool false ∧ w' = w
      | some σ' => r = .bool true ∧ ∃ I', LstP a lent σ' P C F I' ∧ St u w' (I' ++ R) := by
  refine of77 _ _ _ _ ?_
  unfold vc77
  obtain ⟨x2, e2, r2, st⟩ := hL.so2 hS
  have hi := (r2.int h0 h1).2
  refine ⟨x2, e2, ?_⟩
  refine go_ix r2 h0 h1 ?_
  refine ld_int r2 h0 h1 ?_
  intro q0 q1
  unfold takeB
  refine ⟨fun hc => ?_, fun hc => ?_⟩
  · simp only [bls] at hc
    rw [if_pos hc]; exact ⟨rfl, rfl⟩
  · simp only [bls] at hc
    rw [if_neg (by omega)]
    refine ⟨x2, e2, x2, e2, ?_⟩
    refine go_ix r2 h0 h1 ?_
    refine ld_int r2 h0 h1 ?_
    intro _ _
    refine go_wr (by omega) (by omega) ?_
    refine go_ix r2 h0 h1 ?_
    refine st h0 h1 ⟨by omega, by omega⟩ ?_
    intro w2 I2 hL hS
    exact ⟨rfl, I2, hL, hS⟩
theorem c_ledAlive (hR : LRd w a lent σ P C F) (hw : WfB ds arms B σ) (hk : Lk arms σ.vars.length P C F) (h0 : 0 ≤ v) (h1 : v < σ.vars.length) :
    Fn Tryz.prog 42 #[.pointer (some (a.add 0)), .int .i64 v] w (.bool (pB (AlB arms lent σ.own v))) := by
  refine of42 _ _ _ _ ?_
  unfold vc42
  have hl1 := hw.l1
  have hp1 := hk.l1
  obtain ⟨x2, e2, r2⟩ := hR.k2
  obtain ⟨x3, e3, r3⟩ := hR.k3
  obtain ⟨x7, e7, r7⟩ := hR.k7
  refine ⟨fun k w' => w' = w ∧ 0 ≤ k ∧ k < σ.vars.length ∧ (AlB arms lent σ.own k ↔ AlB arms lent σ.own v), fun k _ => k.toNat, ⟨rfl, h0, h1, .rfl⟩, ?_⟩
  rintro k _ ⟨rfl, k0, k1, hkv⟩
  refine ⟨x2, e2, ?_⟩
  refine go_ix r2 k0 (by omega) ?_
  refine ld_int r2 k0 (by omega) ?_
  intro _ _
  refine ⟨x7, fun _ => e7, _, fun _ => c_specIsIn r7, fun hc => ?_, fun hc => ?_⟩
  · simp only [bls] at hc
    refine ⟨x3, e3, ?_⟩
    refine go_ix r3 k0 (by omega) ?_
    refine ld_int r3 k0 (by omega) ?_
    intro _ _
    have hp := hk.par k k0 k1
    cases ha : armFor arms k with
    | none =>
      rw [ha] at hp
      dsimp only at hp
      rw [hp]
      refine ⟨fun hd => ⟨?_, .refl _⟩, fun hd => ?_⟩
      · rw [pB_f]
        intro hal
        rcases (hkv.2 hal).inv with h | h | ⟨a', h, _⟩
        · omega
        · exact hc.2 h
        · rw [ha] at h; cases h
      · simp only [bls] at hd; omega
    | some a' =>
      rw [ha] at hp
      dsimp only at hp
      rw [hp]
      have hlt := AlB.lt hw ha
      refine ⟨fun hd => ?_, fun hd => ?_⟩
      · simp only [bls] at hd; omega
      · refine ⟨⟨rfl, by omega, by omega, ⟨fun h => hkv.1 (.up ha h), fun h => ?_⟩⟩, by dsimp only; omega⟩
        rcases (hkv.2 h).inv with h | h | ⟨a2, h, h2⟩
        · omega
        · exact absurd h hc.2
        · rw [ha] at h; cases h; exact h2
  · simp only [bls] at hc
    refine ⟨?_, .refl _⟩
    rw [pB_t]
    refine hkv.1 ?_
    rcases hc with h | h
    · exact .own (by omega)
    · exact .lent h
theorem c_ledCopied (hR : LRd w a lent σ P C F) : Mk Tryz.prog 147 #[.pointer (some (a.add 0))] w fun r J => ∃ a' : Addr, r = .pointer (some (a'.add 0)) ∧ LstP a' lent σ P C F J := by
  refine of147 _ _ _ ?_
  unfold vc147
  have hS := St.refl w
  obtain ⟨x1, e1, r1⟩ := hR.k1
  obtain ⟨x2, e2, r2⟩ := hR.k2
  obtain ⟨x3, e3, r3⟩ := hR.k3
  obtain ⟨x4, e4, r4⟩ := hR.k4
  obtain ⟨x5, e5, r5⟩ := hR.k5
  obtain ⟨x6, e6, r6⟩ := hR.k6
  obtain ⟨x7, e7, r7⟩ := hR.k7
  refine ⟨x1, e1, x2, e2, x3, e3, x4, e4, x5, e5, x6, e6, x7, e7, ?_⟩
  refine Mk.use (c_copyInts r1) hS ?_
  rintro _ w1 J1 ⟨y1, rfl, o1⟩ hS hs
  refine ⟨_, rfl, hs, ?_⟩
  refine Mk.use (c_copyInts r2) hS ?_
  rintro _ w2 J2 ⟨y2, rfl, o2⟩ hS hs
  refine ⟨_, rfl, hs, ?_⟩
  refine Mk.use (c_copyInts r3) hS ?_
  rintro _ w3 J3 ⟨y3, rfl, o3⟩ hS hs
  refine ⟨_, rfl, hs, ?_⟩
  refine Mk.use (c_copyInts r4) hS ?_
  rintro _ w4 J4 ⟨y4, rfl, o4⟩ hS hs
  refine ⟨_, rfl, hs, ?_⟩
  refine Mk.use (c_copyInts r5) hS ?_
  rintro _ w5 J5 ⟨y5, rfl, o5⟩ hS hs
  refine ⟨_, rfl, hs, ?_⟩
  refine Mk.use (c_copyInts r6) hS ?_
  rintro _ w6 J6 ⟨y6, rfl, o6⟩ hS hs
  refine ⟨_, rfl, hs, ?_⟩
  refine Mk.use (c_copyInts r7) hS ?_
  rintro _ w7 J7 ⟨y7, rfl, o7⟩ hS hs
  refine ⟨_, rfl, ?_⟩
  refine St.box (vals := [y1.val, y2.val, y3.val, y4.val, y5.val, y6.val, y7.val]) hS fun a' w8 I0 hC hS hs => ?_
  replace hS : St w w8 ((I0 ++ (J1 ++ (J2 ++ (J3 ++ (J4 ++ (J5 ++ (J6 ++ J7))))))) ++ []) := by
    have h : St w w8 (I0 ++ (J1 ++ (J2 ++ (J3 ++ (J4 ++ (J5 ++ (J6 ++ (J7 ++ [])))))))) := hS.to
    simpa [List.append_assoc] using h
  exact ⟨I0 ++ (J1 ++ (J2 ++ (J3 ++ (J4 ++ (J5 ++ (J6 ++ J7)))))), by simpa using hS, a', rfl, y1, y2, y3, y4, y5, y6, y7, I0, J1, J2, J3, J4, J5, J6, J7, hC, o1.toI, o2.toI, o3.toI, o4.toI, o5.toI, o6.toI, o7.toI, rfl⟩
theorem c_ledCut (hL : LstP a lent σ P C F I) (hS : St u w (I ++ R)) (hl1 : σ.own.length = σ.vars.length) (hl2 : σ.tok.length = σ.vars.length) (hk : P.length = σ.vars.length ∧ C.length = σ.vars.length ∧ F.length = σ.vars.length) (hl : σ.vars.length ≤ 1000000) (h0 : 0 ≤ m) (h1 : m ≤ σ.vars.length) :
    Trip Tryz.prog 51 #[.pointer (some (a.add 0)), .int .i64 m] w fun r w' =>
      ((∀ v : Int, m ≤ v → v < σ.vars.length → nth σ.own v = 0 ∧ nth σ.tok v < 0) → r = .bool true ∧ ∃ I', LstP a lent ⟨σ.vars.take m.toNat, σ.own.take m.toNat, σ.tok.take m.toNat⟩ (P.take m.toNat) (C.take m.toNat) (F.take m.toNat) I' ∧ St u w' (I' ++ R)) ∧
      (¬ (∀ v : Int, m ≤ v → v < σ.vars.length → nth σ.own v = 0 ∧ nth σ.tok v < 0) → r = .bool false ∧ Sub u w') := by
  refine of51 _ _ _ _ ?_
  unfold vc51
  have hR := hL.rd hS
  obtain ⟨x1, e1, r1⟩ := hR.k1
  obtain ⟨x2, e2, r2⟩ := hR.k2
  obtain ⟨x6, e6, r6⟩ := hR.k6
  have r1n := r1.n
  refine ⟨fun k w' => w = w' ∧ m ≤ k ∧ k ≤ σ.vars.length ∧ ∀ v : Int, m ≤ v → v < k → nth σ.own v = 0 ∧ nth σ.tok v < 0, fun k _ => (σ.vars.length - k).toNat, ⟨rfl, by omega, by omega, fun v _ _ => by omega⟩, ?_⟩
  rintro k _ ⟨rfl, k0, k1, hj⟩
  refine ⟨x1, e1, fun hc => ?_, fun hc => ?_⟩
  · simp only [bls] at hc
    refine ⟨x2, e2, ?_⟩
    refine go_ix r2 (by omega) (by omega) ?_
    refine ld_int r2 (by omega) (by omega) ?_
    intro _ _
    refine ⟨x6, fun _ => e6, ?_⟩
    refine go_ixg r6 (fun _ => by omega) ?_
    refine ld_intg r6 (fun _ => by omega) ?_
    refine ⟨fun hd => ?_, fun hd => ?_⟩
    · simp only [bls] at hd
      refine ⟨fun hh => ?_, fun _ => ⟨rfl, hS.sub⟩⟩
      have := hh k k0 (by omega)
      omega
    · simp only [bls] at hd
      refine go_wr (by omega) (by omega) ?_
      refine ⟨⟨rfl, by omega, by omega, fun v v0 v1 => ?_⟩, by dsimp only; omega⟩
      by_cases e : v = k
      · subst e; exact ⟨by omega, by omega⟩
      · exact hj v v0 (by omega)
  · simp only [bls] at hc
    have hall : ∀ v : Int, m ≤ v → v < σ.vars.length → nth σ.own v = 0 ∧ nth σ.tok v < 0 := fun v v0 v1 => hj v v0 (by omega)
    clear hj hc r1n r1 e1 r2 e2 r6 e6 hR x1 x2 x6
    obtain ⟨x1, x2, x3, x4, x5, x6, x7, I0, J1, J2, J3, J4, J5, J6, J7, hC, o1, o2, o3, o4, o5, o6, o7, rfl⟩ := hL
    replace hS : St u w (I0 ++ (J1 ++ (J2 ++ (J3 ++ (J4 ++ (J5 ++ (J6 ++ (J7 ++ R)))))))) := by simpa [List.append_assoc] using hS
    have k1 := fun u => (o1 u).cut (lo := 0) (hi := m) (by omega) h0 (by omega)
    simp only [show ((0 : Int)).toNat = 0 from rfl, List.drop_zero] at k1
    have d1 : CutOk x1 0 m := ⟨by omega, h0, by obtain ⟨_, hr, _⟩ := o1.read hS; have h1 := hr.2.1; have h2 := (o1 u).n; omega⟩
    refine ⟨x1, hC.load hS rfl, d1, ?_⟩
    refine hC.store hS (by simp) ?_
    clear d1
    intro w1 I0 hC hS
    simp [putR] at hC
    replace hS : St u w1 (I0 ++ (J1 ++ (J2 ++ (J3 ++ (J4 ++ (J5 ++ (J6 ++ (J7 ++ R)))))))) := hS.to
    have k2 := fun u => (o2 u).cut (lo := 0) (hi := m) (by omega) h0 (by omega)
    simp only [show ((0 : Int)).toNat = 0 from rfl, List.drop_zero] at k2
    have d2 : CutOk x2 0 m := ⟨by omega, h0, by obtain ⟨_, hr, _⟩ := o2.read hS; have h1 := hr.2.1; have h2 := (o2 u).n; omega⟩
    refine ⟨x2, hC.load hS rfl, d2, ?_⟩
    refine hC.store hS (by simp) ?_
    clear d2
    intro w2 I0 hC hS
    simp [putR] at hC
    replace hS : St u w2 (I0 ++ (J1 ++ (J2 ++ (J3 ++ (J4 ++ (J5 ++ (J6 ++ (J7 ++ R)))))))) := hS.to
    have k3 := fun u => (o3 u).cut (lo := 0) (hi := m) (by omega) h0 (by have := hk.1; omega)
    simp only [show ((0 : Int)).toNat = 0 from rfl, List.drop_zero] at k3
    have d3 : CutOk x3 0 m := ⟨by omega, h0, by obtain ⟨_, hr, _⟩ := o3.read hS; have h1 := hr.2.1; have h2 := (o3 u).n; have := hk.1; omega⟩
    refine ⟨x3, hC.load hS rfl, d3, ?_⟩
    refine hC.store hS (by simp) ?_
    clear d3
    intro w3 I0 hC hS
    simp [putR] at hC
    replace hS : St u w3 (I0 ++ (J1 ++ (J2 ++ (J3 ++ (J4 ++ (J5 ++ (J6 ++ (J7 ++ R)))))))) := hS.to
    have k4 := fun u => (o4 u).cut (lo := 0) (hi := m) (by omega) h0 (by have := hk.2.1; omega)
    simp only [show ((0 : Int)).toNat = 0 from rfl, List.drop_zero] at k4
    have d4 : CutOk x4 0 m := ⟨by omega, h0, by obtain ⟨_, hr, _⟩ := o4.read hS; have h1 := hr.2.1; have h2 := (o4 u).n; have := hk.2.1; omega⟩
    refine ⟨x4, hC.load hS rfl, d4, ?_⟩
    refine hC.store hS (by simp) ?_
    clear d4
    intro w4 I0 hC hS
    simp [putR] at hC
    replace hS : St u w4 (I0 ++ (J1 ++ (J2 ++ (J3 ++ (J4 ++ (J5 ++ (J6 ++ (J7 ++ R)))))))) := hS.to
    have k5 := fun u => (o5 u).cut (lo := 0) (hi := m) (by omega) h0 (by have := hk.2.2; omega)
    simp only [show ((0 : Int)).toNat = 0 from rfl, List.drop_zero] at k5
    have d5 : CutOk x5 0 m := ⟨by omega, h0, by obtain ⟨_, hr, _⟩ := o5.read hS; have h1 := hr.2.1; have h2 := (o5 u).n; have := hk.2.2; omega⟩
    refine ⟨x5, hC.load hS rfl, d5, ?_⟩
    refine hC.store hS (by simp) ?_
    clear d5
    intro w5 I0 hC hS
    simp [putR] at hC
    replace hS : St u w5 (I0 ++ (J1 ++ (J2 ++ (J3 ++ (J4 ++ (J5 ++ (J6 ++ (J7 ++ R)))))))) := hS.to
    have k6 := fun u => (o6 u).cut (lo := 0) (hi := m) (by omega) h0 (by omega)
    simp only [show ((0 : Int)).toNat = 0 from rfl, List.drop_zero] at k6
    have d6 : CutOk x6 0 m := ⟨by omega, h0, by obtain ⟨_, hr, _⟩ := o6.read hS; have h1 := hr.2.1; have h2 := (o6 u).n; omega⟩
    refine ⟨x6, hC.load hS rfl, d6, ?_⟩
    refine hC.store hS (by simp) ?_
    clear d6
    intro w6 I0 hC hS
    simp [putR] at hC
    replace hS : St u w6 (I0 ++ (J1 ++ (J2 ++ (J3 ++ (J4 ++ (J5 ++ (J6 ++ (J7 ++ R)))))))) := hS.to
    exact ⟨fun _ => ⟨rfl, I0 ++ (J1 ++ (J2 ++ (J3 ++ (J4 ++ (J5 ++ (J6 ++ J7)))))), ⟨_, _, _, _, _, _, x7, I0, J1, J2, J3, J4, J5, J6, J7, hC, k1, k2, k3, k4, k5, k6, o7, rfl⟩, by simpa [List.append_assoc] using hS⟩, fun hn => absurd hall hn⟩
end
end Go.Vc

namespace Go.Vc
open Go Go.Proofs Go.RowKit
set_option linter.all false
theorem find_snoc {α : Type} (p : α → Bool) : ∀ (l : List α) (a : α), (l ++ [a]).find? p = match l.find? p with | some b => some b | none => if p a = true then some a else none
  | [], a => by simp only [List.nil_append, List.find?_cons, List.find?_nil]; cases p a <;> rfl
  | b :: l, a => by
    rw [List.cons_append, List.find?_cons, List.find?_cons]
    cases p b with
    | true => rfl
    | false => exact find_snoc p l a
theorem find_none {α : Type} {p : α → Bool} {l : List α} (h : ∀ a ∈ l, p a = false) : l.find? p = none := List.find?_eq_none.2 fun a ha => by rw [h a ha]; exact Bool.false_ne_true
theorem armFor_snoc (arms : List ArmK) (a : ArmK) (v : Int) : armFor (arms ++ [a]) v = match armFor arms v with | some b => some b | none => if inArm v a = true then some a else none := by
  have h := find_snoc (inArm v) arms a
  unfold armFor
  rw [h]
  cases List.find? (inArm v) arms <;> rfl
theorem armOf_snoc (arms : List ArmK) (a : ArmK) (v : Int) : armOf (arms ++ [a]) v = if a.matched = v then some a else armOf arms v := by
  unfold armOf
  rw [List.reverse_append, List.reverse_singleton, List.singleton_append, List.find?_cons]
  by_cases h : a.matched = v
  · rw [decide_eq_true h, if_pos h]
  · rw [decide_eq_false h, if_neg h]
theorem nth_appL {l r : List Int} {k : Int} (h0 : 0 ≤ k) (h1 : k < l.length) : nth (l ++ r) k = nth l k := by
  unfold nth; simp only [List.getD]; rw [List.getElem?_append_left (by omega)]
theorem nth_snoc {l : List Int} {a : Int} {k : Int} (h1 : k = l.length) : nth (l ++ [a]) k = a := by
  unfold nth; simp only [List.getD]; rw [List.getElem?_append_right (by omega), h1]; simp
/-- arms that lie below n -/
def ArOk (arms : List ArmK) (n : Nat) : Prop := ∀ a ∈ arms, 0 ≤ a.matched ∧ a.matched < a.first ∧ a.first + a.fields.length ≤ n
section
variable {u w v0 : World} {a : Addr} {arms : List ArmK} {lent P C F P' C' F' fs : List Int} {σ σ' : BalS} {I R L : Items} {r v t o m x c op num into : Int} {xx yy ax kx s zz : Sl} {B n : Nat} {ds : List DeclD} {rs : List RoutD} {args : List Int}
theorem WfB.arOk (h : WfB ds arms B σ) : ArOk arms σ.vars.length := fun a ha => let ⟨h1, h2, h3, _⟩ := h.ar a ha; ⟨h1, h2, h3⟩
theorem ArOk.for_none (h : ArOk arms n) (hv : n ≤ v) : armFor arms v = none := find_none fun a ha => by
  have := h a ha
  unfold inArm
  simp only [Bool.and_eq_false_iff, decide_eq_false_iff_not]
  omega
theorem ArOk.of_none (h : ArOk arms n) (hv : n ≤ v) : armOf arms v = none := find_none fun a ha => by
  have := h a (List.mem_reverse.1 ha)
  simp only [decide_eq_false_iff_not]
  omega
theorem Lk.grow (h : Lk arms n P C F) (ha : ArOk arms n) : Lk arms (n + 1) (P ++ [-1]) (C ++ [-1]) (F ++ [-1]) := by
  refine ⟨by simp [h.l1], by simp [h.l2], by simp [h.l3], fun v v0 v1 => ?_, fun v v0 v1 => ?_⟩
  · by_cases e : v < n
    · rw [nth_appL v0 (by rw [h.l1]; exact e)]; exact h.par v v0 e
    · rw [nth_snoc (by have := h.l1; omega), ha.for_none (by omega)]
  · by_cases e : v < n
    · rw [nth_appL v0 (by rw [h.l2]; exact e), nth_appL v0 (by rw [h.l3]; exact e)]; exact h.con v v0 e
    · rw [nth_snoc (l := C) (by have := h.l2; omega), ha.of_none (by omega)]
theorem Lk.enter (h : Lk arms n P C F) (ha : ArOk arms n) (h0 : 0 ≤ x) (h1 : x < n) : Lk (arms ++ [⟨x, n, c, []⟩]) n P (C.set x.toNat c) (F.set x.toNat n) := by
  refine ⟨h.l1, by simp [h.l2], by simp [h.l3], fun v v0 v1 => ?_, fun v v0 v1 => ?_⟩
  · rw [armFor_snoc]
    have := h.par v v0 v1
    cases hf : armFor arms v with
    | some b => rw [hf] at this; exact this
    | none =>
      rw [hf] at this
      dsimp only
      rw [if_neg]
      · exact this
      · unfold inArm
        simp only [List.length_nil, Bool.and_eq_true, decide_eq_true_eq]
        omega
  · rw [armOf_snoc, nth_set _ _ _ _ h0 (by rw [h.l2]; exact h1) v0, nth_set _ _ _ _ h0 (by rw [h.l3]; exact h1) v0]
    by_cases e : v = x
    · subst e
      rw [if_pos rfl, if_pos rfl, if_pos rfl]
      exact ⟨rfl, rfl⟩
    · rw [if_neg (fun hh => e hh.symm), if_neg e, if_neg e]
      exact h.con v v0 v1
theorem Lk.field {m : Nat} (h : Lk (arms ++ [⟨x, m, c, fs⟩]) n P C F) (ha : ArOk arms m) (hn : n = m + fs.length) (h0 : 0 ≤ x) (h1 : x < m) : Lk (arms ++ [⟨x, m, c, fs ++ [t]⟩]) (n + 1) (P ++ [x]) (C ++ [-1]) (F ++ [-1]) := by
  refine ⟨by simp [h.l1], by simp [h.l2], by simp [h.l3], fun v v0 v1 => ?_, fun v v0 v1 => ?_⟩
  · rw [armFor_snoc]
    by_cases e : v < n
    · rw [nth_appL v0 (by rw [h.l1]; exact e)]
      have := h.par v v0 e
      rw [armFor_snoc] at this
      cases hf : armFor arms v with
      | some b => rw [hf] at this; exact this
      | none =>
        rw [hf] at this
        dsimp only at this ⊢
        have e2 : inArm v ⟨x, m, c, fs ++ [t]⟩ = inArm v ⟨x, m, c, fs⟩ := by
          unfold inArm
          rw [Bool.eq_iff_iff]
          simp only [List.length_append, List.length_singleton, Bool.and_eq_true, decide_eq_true_eq]
          omega
        rw [e2]
        by_cases hi : inArm v ⟨x, m, c, fs⟩ = true
        · rw [if_pos hi] at this ⊢; exact this
        · rw [if_neg hi] at this ⊢; exact this
    · rw [nth_snoc (by have := h.l1; omega), ha.for_none (by omega)]
      dsimp only
      rw [if_pos]
      unfold inArm
      simp only [List.length_append, List.length_singleton, Bool.and_eq_true, decide_eq_true_eq]
      omega
  · rw [armOf_snoc]
    by_cases e : v < n
    · rw [nth_appL v0 (by rw [h.l2]; exact e), nth_appL v0 (by rw [h.l3]; exact e)]
      have := h.con v v0 e
      rw [armOf_snoc] at this
      dsimp only at this ⊢
      split
      · rename_i b hb
        split at hb
        · rename_i hx
          rw [if_pos hx] at this
          cases hb
          exact this
        · rename_i hx
          rw [if_neg hx, hb] at this
          exact this
      · rename_i hb
        split at hb
        · cases hb
        · rename_i hx
          rw [if_neg hx, hb] at this
          exact this
    · rw [nth_snoc (l := C) (by have := h.l2; omega), if_neg (by dsimp only; omega), ha.of_none (by omega)]
/-- the end of a function that changes the ledger -/
def OpL (u : World) (R : Items) (a : Addr) (lent P C F : List Int) : Option BalS → Value → World → Prop
  | none, r, w => r = .bool false ∧ Sub u w
  | some σ, r, w => r = .bool true ∧ ∃ I, LstP a lent σ P C F I ∧ St u w (I ++ R)
theorem c_ledOpen (hx : Read u xx ds) (hd : typesOk ds) (hL : LstP a lent σ P C F I) (hS : St u w (I ++ R)) (hw : WfB ds arms B σ) (hk : Lk arms σ.vars.length P C F) (hB : B ≤ 1000000) (hl : σ.vars.length ≤ 1000000) (ha : Read u ax args) (h0 : 0 ≤ nth args 0) (h1 : nth args 0 < σ.vars.length) (hal : 1 ≤ args.length) :
    Trip Tryz.prog 91 #[.pointer (some (a.add 0)), .agg #[xx.val, yy.val], .agg #[.int .i64 op, .int .i64 num, .int .i64 into, ax.val, kx.val]] w (OpL u R a lent P C F (openB arms σ op (nth args 0))) := by
  refine of91 _ _ _ _ _ _ _ _ _ _ ?_
  unfold vc91
  have hl1 := hw.l1
  have hl2 := hw.l2
  have hk2 := hk.l2
  have hk3 := hk.l3
  have hR := hL.rd hS
  obtain ⟨x4, e4, r4⟩ := hR.k4
  obtain ⟨x6, e6, r6⟩ := hR.k6
  refine go_ix ha (by omega) (by omega) ?_
  refine ld_int (ha.mono hS.sub) (by omega) (by omega) ?_
  intro _ _
  refine ⟨x4, e4, ?_⟩
  refine go_ix r4 h0 (by omega) ?_
  refine ld_int r4 h0 (by omega) ?_
  intro _ _
  refine ⟨x6, fun _ _ => e6, fun _ _ => r6.ix h0 (by omega), nth σ.tok (nth args 0), fun _ _ => (r6.int h0 (by omega)).1, fun hq => ?_, fun hq => ?_⟩
  · simp only [bls] at hq
    have hc := hk.con _ h0 h1
    cases hao : armOf arms (nth args 0) with
    | none => rw [hao] at hc; dsimp only at hc; omega
    | some b =>
      rw [hao] at hc
      obtain ⟨hcc, hcf⟩ := hc
      obtain ⟨hbm, hbx⟩ := armOf_mem hao
      obtain ⟨g1, g2, g3, g4, g5⟩ := hw.ar b hbm
      have hop : openB arms σ op (nth args 0) = (takeB σ (nth args 0)).map fun σ' => if op = 17 then tokB (incsB σ' b.first b.fields b.fields.length) (nth args 0) b.fields.length else incsB σ' b.first b.fields b.fields.length := by
        unfold openB
        rw [hao]
        dsimp only
        rw [if_neg (by omega)]
      rw [hop]
      refine (c_ledTake hL hS h0 (by omega)).mono' ?_
      intro r2 w2 hT
      cases ht : takeB σ (nth args 0) with
      | none =>
        rw [ht] at hT
        obtain ⟨rfl, rfl⟩ := hT
        exact ⟨false, rfl, fun _ => ⟨rfl, hS.sub⟩, fun hh => (by cases hh)⟩
      | some σ1 =>
        rw [ht] at hT
        obtain ⟨rfl, I2, hL, hS⟩ := hT
        refine ⟨true, rfl, fun hh => (by cases hh), fun _ => ?_⟩
        obtain ⟨w1, ev, et⟩ := hw.take ht
        have hl3 := w1.l1
        rw [ev] at hl3
        have hR := hL.rd hS
        obtain ⟨x4, e4, r4⟩ := hR.k4
        refine ⟨x4, e4, ?_⟩
        refine go_ix r4 h0 (by omega) ?_
        refine ld_int r4 h0 (by omega) ?_
        intro c0 c1
        rw [hcc]
        rw [hcc] at c0 c1
        refine Mk.use (c_conFieldsR hx hd.sm ⟨c0, c1⟩) hS ?_
        rintro _ w3 J ⟨z, rfl, hr⟩ hS hs
        have hzr := hr _ (hS.to : St u w3 (J ++ [])).left
        have hzn := hzr.n
        rw [← g5] at hzn
        refine ⟨_, rfl, ?_⟩
        have hf3 := conF_len3 hd b.con
        rw [← g5] at hf3
        refine ⟨fun i w => ∃ I', LstP a lent (incsB σ1 b.first b.fields i.toNat) P C F I' ∧ St u w (I' ++ (J ++ R)) ∧ 0 ≤ i ∧ i ≤ b.fields.length, fun i _ => (b.fields.length - i).toNat, ⟨I2, hL, hS.to, by omega, by omega⟩, ?_⟩
        clear hL hS hs hzr hR e4 r4
        rintro i w ⟨I3, hL, hS, i0, i1⟩
        dsimp only
        obtain ⟨k1, k2, k3⟩ := incsB_keep (σ := σ1) b.first b.fields i.toNat
        have hzr := hr _ (hS.to : St u w (J ++ [])).left
        refine ⟨fun hi => ?_, fun hi => ?_⟩
        · simp only [bls] at hi
          refine go_ix hzr i0 (by rw [← g5]; omega) ?_
          refine ld_int hzr i0 (by rw [← g5]; omega) ?_
          intro _ _
          have hsucc : incsB σ1 b.first b.fields (i + 1).toNat = if nth b.fields i ≠ 0 then incB (incsB σ1 b.first b.fields i.toNat) (b.first + i) else incsB σ1 b.first b.fields i.toNat := by
            rw [show (i + 1).toNat = i.toNat + 1 from by omega, incsB, show ((i.toNat : Nat) : Int) = i from by omega]
          rw [← g5]
          refine ⟨fun hq => ?_, fun hq => ?_⟩
          · simp only [bls] at hq
            have hR := hL.rd hS
            obtain ⟨y2, f2, q2, st⟩ := hL.so2 hS
            obtain ⟨y5, f5, q5⟩ := hR.k5
            have hval := incsB_own (σ := σ1) b.first b.fields (by omega) i.toNat (by omega) (b.first + i) (by omega)
            rw [if_neg (by omega)] at hval
            have hbd := nth_memD (B := (B : Int)) w1.ow (by omega) (b.first + i)
            refine ⟨y2, f2, y5, f5, ?_⟩
            refine go_ix q5 h0 (by omega) ?_
            refine ld_int q5 h0 (by omega) ?_
            intro _ _
            rw [hcf]
            refine go_wr (by omega) (by omega) ?_
            refine ⟨y2, f2, y5, f5, ?_⟩
            refine go_ix q5 h0 (by omega) ?_
            refine ld_int q5 h0 (by omega) ?_
            intro _ _
            rw [hcf]
            refine go_wr (by omega) (by omega) ?_
            refine go_ix q2 (by omega) (by omega) ?_
            refine ld_int q2 (by omega) (by omega) ?_
            intro _ _
            refine go_wr (by omega) (by omega) ?_
            refine go_ix q2 (by omega) (by omega) ?_
            refine st (by omega) (by omega) ⟨by omega, by omega⟩ ?_
            intro w4 I4 hL hS
            refine go_wr (by omega) (by omega) ?_
            refine ⟨rfl, rfl, rfl, rfl, rfl, rfl, rfl, ⟨I4, ?_, hS, by omega, by omega⟩, by omega⟩
            rw [hsucc, if_pos hq]
            exact hL
          · simp only [bls] at hq
            refine go_wr (by omega) (by omega) ?_
            refine ⟨rfl, rfl, rfl, rfl, rfl, rfl, rfl, ⟨I3, ?_, hS, by omega, by omega⟩, by omega⟩
            rw [hsucc, if_neg (by omega)]
            exact hL
        · simp only [bls] at hi
          have hie : i.toNat = b.fields.length := by omega
          rw [hie] at hL k1 k2 k3
          refine ⟨fun ho => ?_, fun ho => ?_⟩
          · simp only [bls] at ho
            obtain ⟨y6, f6, q6, st⟩ := hL.so6 hS
            have hl4 : (incsB σ1 b.first b.fields b.fields.length).tok.length = σ.vars.length := by rw [k2, et]; exact hl2
            refine ⟨y6, f6, ?_⟩
            refine go_ix q6 h0 (by omega) ?_
            rw [hzn]
            refine st h0 (by omega) ⟨by omega, by omega⟩ ?_
            intro w4 I4 hL hS
            refine ⟨rfl, I4, ?_, hS.to⟩
            show LstP a lent (if op = 17 then _ else _) P C F I4
            rw [if_pos ho]
            exact hL
          · simp only [bls] at ho
            refine ⟨rfl, I3, ?_, hS.to⟩
            show LstP a lent (if op = 17 then _ else _) P C F I3
            rw [if_neg ho]
            exact hL
  · simp only [bls] at hq
    have hc := hk.con _ h0 h1
    have hn : openB arms σ op (nth args 0) = none := by
      unfold openB
      cases hao : armOf arms (nth args 0) with
      | none => rfl
      | some b =>
        rw [hao] at hc
        obtain ⟨hcc, hcf⟩ := hc
        obtain ⟨hbm, hbx⟩ := armOf_mem hao
        obtain ⟨g1, g2, g3, g4, g5⟩ := hw.ar b hbm
        dsimp only
        rw [if_pos (by omega)]
    rw [hn]
    exact ⟨rfl, hS.sub⟩
end
end Go.Vc

namespace Go.Vc
open Go Go.Proofs Go.RowKit
set_option linter.all false
section
variable {u w v v0 : World} {a : Addr} {arms : List ArmK} {lent P C F P' C' F' fs vars params : List Int} {σ σ' : BalS} {I R L : Items} {r t o m i c op num into : Int} {xx yy x y ax kx s zz z px lx sx : Sl} {B n : Nat} {ds : List DeclD} {rs : List RoutD} {ss : List SigD} {args : List Int} {k : StepD} {res bres : Int}
theorem c_consumes : Fn Tryz.prog 148 #[.int .i64 op] v (.bool ((((decide (op = 6)) || (decide (op = 9))) || (decide (op = 10))) || (decide (op = 11)))) := by
  refine of148 _ _ _ ?_
  unfold vc148
  exact ⟨rfl, .refl v⟩
theorem c_lentAt (hy : Read v y rs) (hnum : op = 9 → 0 ≤ num ∧ num < rs.length) : Fn Tryz.prog 127 #[.agg #[x.val, y.val], .agg #[.int .i64 op, .int .i64 num, .int .i64 into, ax.val, kx.val], .int .i64 i] v (.bool (pB (lentAtB (rs.map sgOf) op num i))) := by
  refine of127 _ _ _ _ _ _ _ _ _ _ ?_
  unfold vc127
  refine ⟨fun ho => hy.ix (hnum (of_decide_eq_true ho)).1 (hnum (of_decide_eq_true ho)).2, ?_⟩
  by_cases ho : op = 9
  · obtain ⟨f1, f2, f3, e1, e2, e3, e4, e5, i1, i2, r1, r2, r3⟩ := (hy.src (.refl v)).ofRoutD (hnum ho).1 (hnum ho).2
    refine ⟨f2, fun _ => e2, _, fun _ => c_specIsIn r2, ?_, .refl v⟩
    congr 1
    refine pB_eq ?_
    unfold lentAtB
    rw [nth_sg]
    simp only [bls]
    rfl
  · refine ⟨Sl.mk none 0 0, fun hh => absurd (of_decide_eq_true hh) ho, false, fun hh => absurd (of_decide_eq_true hh) ho, ?_, .refl v⟩
    rw [pB_f fun hh => ho hh.1]; simp
theorem c_isConsumed (hy : Read v y rs) (hnum : op = 9 → 0 ≤ num ∧ num < rs.length) (hz : Read v z vars) (ha : Read v ax args) (h0 : 0 ≤ i) (h1 : i < args.length) (hin : 0 ≤ nth args i ∧ nth args i < vars.length) :
    Fn Tryz.prog 126 #[.agg #[x.val, y.val], z.val, .agg #[.int .i64 op, .int .i64 num, .int .i64 into, ax.val, kx.val], .int .i64 i] v (.bool (pB (consAt (rs.map sgOf) vars op num args i))) := by
  refine of126 _ _ _ _ _ _ _ _ _ _ _ ?_
  unfold vc126
  refine ⟨_, c_consumes, ?_⟩
  refine go_ixg ha (fun _ => ⟨h0, h1⟩) ?_
  refine ld_intg ha (fun _ => ⟨h0, h1⟩) ?_
  refine go_ixg hz (fun _ => hin) ?_
  refine ld_intg hz (fun _ => hin) ?_
  refine ⟨_, fun _ => c_lentAt hy hnum, ?_, .refl v⟩
  congr 1
  refine pB_eq ?_
  unfold consAt isCons
  rcases Classical.em (lentAtB (rs.map sgOf) op num i) with hl | hl
  · rw [pB_t hl]
    simp only [bls]
    constructor
    · intro hh; exact absurd hh.2 (by simp)
    · intro hh; exact absurd hl hh.2.2
  · rw [pB_f hl]
    simp only [bls]
    constructor
    · intro hh; exact ⟨by omega, by omega, hl⟩
    · rintro ⟨h1, h2, _⟩
      first | exact ⟨⟨by omega, by omega⟩, trivial⟩ | exact ⟨by omega, by omega⟩
theorem takesB_none {n k : Nat} (h : takesB ss op num args n σ = none) (hk : n ≤ k) : takesB ss op num args k σ = none := by
  induction k with
  | zero => rw [show n = 0 from by omega] at h; exact h
  | succ k ih =>
    by_cases e : n = k + 1
    · rw [← e]; exact h
    · rw [takesB, ih (by omega)]; rfl
theorem c_ledHand (h : Nrm u xx yy ds rs) (hL : LstP a lent σ P C F I) (hS : St u w (I ++ R)) (hw : WfB ds arms B σ) (hk : Lk arms σ.vars.length P C F) (hl : σ.vars.length ≤ 1000000) (hB : B ≤ 1000000) (ha : Read u ax args)
    (hin : argsIn σ.vars args) (hto : intoIn σ.vars op into) (hnum : op = 9 → 0 ≤ num ∧ num < rs.length) (hi : InI into) :
    Trip Tryz.prog 93 #[.pointer (some (a.add 0)), .agg #[xx.val, yy.val], .agg #[.int .i64 op, .int .i64 num, .int .i64 into, ax.val, kx.val]] w (OpL u R a lent P C F (handB (rs.map sgOf) lent arms op num into args σ)) := by
  refine of93 _ _ _ _ _ _ _ _ _ _ ?_
  unfold vc93
  have han := ha.n
  have hal := ha.le
  obtain ⟨hi1, hi2⟩ := hi
  refine ⟨fun i w => ∃ σ' I', takesB (rs.map sgOf) op num args i.toNat σ = some σ' ∧ LstP a lent σ' P C F I' ∧ St u w (I' ++ R) ∧ 0 ≤ i ∧ i ≤ args.length, fun i _ => (args.length - i).toNat, ⟨σ, I, by rw [show ((0 : Int)).toNat = 0 from rfl, takesB], hL, hS, by omega, by omega⟩, ?_⟩
  clear hL hS
  rintro i w ⟨σ1, I1, ht, hL, hS, i0, i1⟩
  dsimp only
  obtain ⟨w1, ev⟩ := hw.takes _ _ ht
  have hR := hL.rd hS
  have hl1 := w1.l1
  have hl2 := w1.l2
  refine ⟨fun hc => ?_, fun hc => ?_⟩
  · simp only [bls] at hc
    have hil : i < args.length := by omega
    obtain ⟨x1, e1, r1⟩ := hR.k1
    have hai := argsIn_nth hin i0 hil
    have hsucc : takesB (rs.map sgOf) op num args (i + 1).toNat σ = (takesB (rs.map sgOf) op num args i.toNat σ).bind fun σ' => @ite _ (consAt (rs.map sgOf) σ'.vars op num args i) (Classical.propDecidable _) (takeB σ' (nth args i)) (some σ') := by
      rw [show (i + 1).toNat = i.toNat + 1 from by omega, takesB, show ((i.toNat : Nat) : Int) = i from by omega]
    rw [ht, Option.bind_some] at hsucc
    refine ⟨x1, e1, _, c_isConsumed (h.hy.mono hS.sub) hnum r1 (ha.mono hS.sub) i0 hil (by rw [ev]; exact hai), ?_⟩
    refine go_ixg ha (fun _ => ⟨i0, hil⟩) ?_
    refine ld_intg (ha.mono hS.sub) (fun _ => ⟨i0, hil⟩) ?_
    refine ⟨fun hq => ?_, fun hq => ?_⟩
    · have hq := pB_iff.1 hq
      rw [if_pos hq] at hsucc
      refine (c_ledTake hL hS hai.1 (by rw [hl1, ev]; exact hai.2)).mono' ?_
      intro r2 w2 hT
      cases htk : takeB σ1 (nth args i) with
      | none =>
        rw [htk] at hT hsucc
        obtain ⟨rfl, rfl⟩ := hT
        refine ⟨false, rfl, fun _ => ?_, fun hh => (by cases hh)⟩
        have hn : handB (rs.map sgOf) lent arms op num into args σ = none := by
          unfold handB
          rw [takesB_none hsucc (by omega)]; rfl
        rw [hn]
        exact ⟨rfl, hS.sub⟩
      | some σ2 =>
        rw [htk] at hT hsucc
        obtain ⟨rfl, I2, hL2, hS2⟩ := hT
        refine ⟨true, rfl, fun hh => (by cases hh), fun _ => ?_⟩
        refine go_wr (by omega) (by omega) ?_
        exact ⟨rfl, rfl, rfl, rfl, rfl, rfl, rfl, ⟨σ2, I2, hsucc, hL2, hS2, by omega, by omega⟩, by omega⟩
    · have hq : ¬ consAt (rs.map sgOf) σ1.vars op num args i := fun hh => by rw [pB_t hh] at hq; cases hq
      rw [if_neg hq] at hsucc
      refine go_wr (by omega) (by omega) ?_
      exact ⟨rfl, rfl, rfl, rfl, rfl, rfl, rfl, ⟨σ1, I1, hsucc, hL, hS, by omega, by omega⟩, by omega⟩
  · simp only [bls] at hc
    rw [show i.toNat = args.length from by omega] at ht
    have hk1 : Lk arms σ1.vars.length P C F := by rw [ev]; exact hk
    refine ⟨fun j w' => w = w' ∧ 0 ≤ j ∧ j ≤ args.length ∧ ∀ q : Int, 0 ≤ q → q < j → lentAtB (rs.map sgOf) op num q → AlB arms lent σ1.own (nth args q), fun j _ => (args.length - j).toNat, ⟨rfl, by omega, by omega, fun q q0 q1 => by omega⟩, ?_⟩
    rintro j _ ⟨rfl, j0, j1, hj⟩
    dsimp only
    refine ⟨fun hd => ?_, fun hd => ?_⟩
    · simp only [bls] at hd
      have hjl : j < args.length := by omega
      have haj := argsIn_nth hin j0 hjl
      refine ⟨_, c_lentAt (h.hy.mono hS.sub) hnum, ?_⟩
      refine go_ixg ha (fun _ => ⟨j0, hjl⟩) ?_
      refine ld_intg (ha.mono hS.sub) (fun _ => ⟨j0, hjl⟩) ?_
      refine ⟨_, fun _ => c_ledAlive hR w1 hk1 haj.1 (by rw [ev]; exact haj.2), fun hq => ?_, fun hq => ?_⟩
      · simp only [bls] at hq
        have hlt := pB_iff.1 hq.1
        have hnal : ¬ AlB arms lent σ1.own (nth args j) := fun hh => by rw [pB_t hh] at hq; exact absurd hq.2 (by simp)
        have hn : handB (rs.map sgOf) lent arms op num into args σ = none := by
          unfold handB
          rw [ht, Option.bind_some, if_neg fun hh => hnal (hh j j0 hjl hlt)]
        rw [hn]
        exact ⟨rfl, hS.sub⟩
      · simp only [bls] at hq
        refine go_wr (by omega) (by omega) ?_
        refine ⟨rfl, rfl, rfl, rfl, rfl, rfl, rfl, ⟨rfl, by omega, by omega, fun q q0 q1 hlq => ?_⟩, by omega⟩
        by_cases e : q = j
        · subst e
          rcases hq with hq | hq
          · rw [pB_t hlq] at hq; cases hq
          · exact pB_iff.1 hq
        · exact hj q q0 (by omega) hlq
    · simp only [bls] at hd
      have hlo : lentsOk (rs.map sgOf) lent arms op num args σ1 := fun q q0 q1 => hj q q0 (by omega)
      have hh : handB (rs.map sgOf) lent arms op num into args σ = intoB into args σ1 := by
        unfold handB
        rw [ht, Option.bind_some, if_pos hlo]
      rw [hh]
      unfold intoB
      refine ⟨fun hq => ?_, fun hq => ?_⟩
      · simp only [bls] at hq
        rw [if_neg (by omega)]
        have hr : 0 ≤ into - 1 ∧ into - 1 < σ.vars.length := by
          rcases hto with h1 | ⟨_, h2, h3, _⟩
          · omega
          · omega
        obtain ⟨x6, e6, r6, st⟩ := hL.so6 hS
        refine ⟨x6, e6, ?_⟩
        refine go_wr (by omega) (by omega) ?_
        refine go_ix r6 (by omega) (by rw [hl2, ev]; omega) ?_
        refine ld_int r6 (by omega) (by rw [hl2, ev]; omega) ?_
        intro _ _
        rw [han]
        refine ⟨fun hq => ?_, fun hq => ?_⟩
        · simp only [bls] at hq
          rw [if_pos hq]
          exact ⟨rfl, hS.sub⟩
        · simp only [bls] at hq
          rw [if_neg (by omega)]
          refine ⟨x6, e6, ?_⟩
          refine go_wr (by omega) (by omega) ?_
          refine go_ix r6 (by omega) (by rw [hl2, ev]; omega) ?_
          refine st (by omega) (by rw [hl2, ev]; omega) ⟨by omega, by omega⟩ ?_
          intro w3 I3 hL3 hS3
          exact ⟨rfl, I3, hL3, hS3⟩
      · simp only [bls] at hq
        have hi0 : into = 0 := by
          rcases hto with h1 | ⟨_, h2, h3, _⟩
          · exact h1
          · omega
        rw [if_pos hi0]
        exact ⟨rfl, I1, hL, hS⟩
/-! ### the beginning of a routine -/
noncomputable def ownAt (params lent : List Int) (i : Nat) : Int := bif pB (nth params (i : Int) ≠ 0 ∧ (i : Int) ∉ lent) then 1 else 0
noncomputable def startK (params lent : List Int) (k : Nat) : BalS := ⟨params.take k, (List.range k).map (ownAt params lent), List.replicate k (-1)⟩
noncomputable def startB (params lent : List Int) : BalS := startK params lent params.length
theorem startK_succ (h0 : 0 ≤ i) (h1 : i < params.length) : startK params lent (i + 1).toNat = growB (startK params lent i.toNat) (nth params i) (ownAt params lent i.toNat) := by
  unfold startK growB
  rw [take_nth h0 h1, show (i + 1).toNat = i.toNat + 1 from by omega, List.range_succ, List.map_append, List.replicate_succ']
  rfl
theorem ownAt_le (params lent : List Int) (i : Nat) : 0 ≤ ownAt params lent i ∧ ownAt params lent i ≤ 1 := by
  unfold ownAt
  cases pB (nth params (i : Int) ≠ 0 ∧ (i : Int) ∉ lent) <;> simp
theorem start_wf (hv : nonneg params) : WfB ds [] 1 (startB params lent) := by
  unfold startB startK
  refine ⟨by simp, by simp, fun t ht => hv t (List.mem_of_mem_take ht), fun n hn => ?_, fun n hn => ?_, fun a ha => by cases ha⟩
  · obtain ⟨i, _, rfl⟩ := List.mem_map.1 hn
    exact ownAt_le params lent i
  · rw [List.eq_of_mem_replicate hn]; omega
theorem start_vars : (startB params lent).vars = params := by unfold startB startK; simp
theorem ArOk.nil (n : Nat) : ArOk [] n := fun a ha => by cases ha
theorem c_newLedger (hp : Read v px params) (hlx : Read v lx lent) (hv : nonneg params) (hl : params.length ≤ 1000) :
    Mk Tryz.prog 49 #[.agg #[px.val, lx.val, .int .i64 res, sx.val, .int .i64 bres]] v fun r J => ∃ a : Addr, r = .pointer (some (a.add 0)) ∧ Lst a [] lent (startB params lent) J := by
  refine of49 _ _ _ _ _ _ _ ?_
  unfold vc49
  have hpn := hp.n
  refine Mk.use (c_copyInts hlx) (.refl v) ?_
  rintro _ w1 J1 ⟨z1, rfl, hO⟩ hS hs
  refine ⟨_, rfl, ?_⟩
  refine St.box (vals := [.slice none 0 0, .slice none 0 0, .slice none 0 0, .slice none 0 0, .slice none 0 0, .slice none 0 0, z1.val]) hS fun a w2 I0 hC hS hs2 => ?_
  have hn : OwnI (Sl.mk none 0 0) [] [] := fun u => Own.nil u
  have hL : LstP a lent (startK params lent 0) [] [] [] (I0 ++ ([] ++ ([] ++ ([] ++ ([] ++ ([] ++ ([] ++ J1))))))) := ⟨Sl.mk none 0 0, Sl.mk none 0 0, Sl.mk none 0 0, Sl.mk none 0 0, Sl.mk none 0 0, Sl.mk none 0 0, z1, I0, [], [], [], [], [], [], J1, hC, hn, hn, hn, hn, hn, hn, hO.toI, rfl⟩
  refine ⟨fun i w => ∃ P C F I, LstP a lent (startK params lent i.toNat) P C F I ∧ Lk [] i.toNat P C F ∧ St v w (I ++ []) ∧ 0 ≤ i ∧ i ≤ params.length, fun i _ => (params.length - i).toNat, ⟨[], [], [], _, hL, ⟨rfl, rfl, rfl, fun v v0 v1 => by simp at v1; omega, fun v v0 v1 => by simp at v1; omega⟩, by simpa using hS, by omega, by omega⟩, ?_⟩
  clear hL hC hS hs2 hO
  rintro i w ⟨P, C, F, I, hL, hk, hS, i0, i1⟩
  dsimp only
  refine ⟨fun hc => ?_, fun hc => ?_⟩
  · simp only [bls] at hc
    have hil : i < params.length := by omega
    refine go_ix hp i0 hil ?_
    refine ld_int (hp.mono hS.sub) i0 hil ?_
    intro q0 q1
    refine ⟨_, fun _ => c_specIsIn (hlx.mono hS.sub), ?_⟩
    have hlen : (startK params lent i.toNat).vars.length ≤ 1000000 ∧ (startK params lent i.toNat).own.length ≤ 1000000 ∧ P.length ≤ 1000000 ∧ C.length ≤ 1000000 ∧ F.length ≤ 1000000 ∧ (startK params lent i.toNat).tok.length ≤ 1000000 := by
      have := hk.l1; have := hk.l2; have := hk.l3
      unfold startK
      simp only [List.length_take, List.length_map, List.length_range, List.length_replicate]
      omega
    have hnx : ∀ (o : Int), o = ownAt params lent i.toNat → Trip Tryz.prog 76 #[.pointer (some (a.add 0)), .int .i64 (nth params i), .int .i64 o, .int .i64 (-1)] w fun r w' => r = .tuple #[] ∧ ∃ P C F I, LstP a lent (startK params lent (i + 1).toNat) P C F I ∧ Lk [] (i + 1).toNat P C F ∧ St v w' (I ++ []) := by
      rintro o rfl
      have ho := ownAt_le params lent i.toNat
      refine (c_ledGrowP hL hS hlen ⟨q0, q1⟩ ⟨by omega, by omega⟩ ⟨by omega, by omega⟩).mono' ?_
      rintro r w' ⟨rfl, I2, hL2, hS2⟩
      refine ⟨rfl, _, _, _, I2, by rw [startK_succ i0 hil]; exact hL2, ?_, hS2⟩
      rw [show (i + 1).toNat = i.toNat + 1 from by omega]
      exact hk.grow (ArOk.nil _)
    refine ⟨fun hq => ?_, fun hq => ?_⟩
    · simp only [bls] at hq
      refine go_ix hp i0 hil ?_
      refine ld_int (hp.mono hS.sub) i0 hil ?_
      intro _ _
      refine (hnx 1 ?_).mono' ?_
      · unfold ownAt
        rw [pB_t ⟨by rw [show ((i.toNat : Nat) : Int) = i from by omega]; exact hq.1, by rw [show ((i.toNat : Nat) : Int) = i from by omega]; exact hq.2⟩]
        rfl
      · rintro r w' ⟨rfl, P2, C2, F2, I2, hL2, hk2, hS2⟩
        refine ⟨rfl, ?_⟩
        refine go_wr (by omega) (by omega) ?_
        exact ⟨rfl, rfl, rfl, rfl, rfl, ⟨P2, C2, F2, I2, hL2, hk2, hS2, by omega, by omega⟩, by omega⟩
    · simp only [bls] at hq
      refine go_ix hp i0 hil ?_
      refine ld_int (hp.mono hS.sub) i0 hil ?_
      intro _ _
      refine (hnx 0 ?_).mono' ?_
      · unfold ownAt
        rw [pB_f]
        · rfl
        rw [show ((i.toNat : Nat) : Int) = i from by omega]
        rintro ⟨g1, g2⟩
        rcases hq with hq | hq
        · exact g1 hq
        · exact g2 hq
      · rintro r w' ⟨rfl, P2, C2, F2, I2, hL2, hk2, hS2⟩
        refine ⟨rfl, ?_⟩
        refine go_wr (by omega) (by omega) ?_
        exact ⟨rfl, rfl, rfl, rfl, rfl, ⟨P2, C2, F2, I2, hL2, hk2, hS2, by omega, by omega⟩, by omega⟩
  · simp only [bls] at hc
    rw [show i.toNat = params.length from by omega] at hL hk
    exact ⟨I, by simpa using hS, a, rfl, P, C, F, hL, by rw [start_vars]; exact hk⟩
end
end Go.Vc
