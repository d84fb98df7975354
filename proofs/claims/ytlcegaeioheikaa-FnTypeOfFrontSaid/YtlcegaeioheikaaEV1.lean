/- Part of the proofs about the heaps and memories: a law is joined in the text whose name ends in W and the law. -/
import Derived.Test.YtlcegaeioheikaaEK7
namespace Go.Vc
open Go Go.Proofs Go.RowKit
set_option linter.all false
/-- what is known of a register -/
structure RegK where
 typ : Int
 own : Int
 lent : Bool
 con : Int
 frm : Int
 field : Int
deriving DecidableEq
instance : Inhabited RegK := ⟨⟨-1, 0, false, -1, -1, -1⟩⟩
structure VwD where
 regs : List RegK
 kept : List Int
def VwD.reg (v : VwD) (r : Int) : RegK := nth v.regs r
def VwD.upd (v : VwD) (r : Int) (k : RegK) : VwD := ⟨v.regs.set r.toNat k, v.kept⟩
/-- a register is alive -/
inductive Al (v : VwD) : Int → Prop where
 | here {r : Int} : (0 < (v.reg r).own ∨ (v.reg r).lent = true) → Al v r
 | up {r : Int} : 0 ≤ (v.reg r).frm → Al v (v.reg r).frm → Al v r
/-- what holds of all that is known -/
structure Wf (n B : Nat) (v : VwD) : Prop where
 len : v.regs.length = n
 klen : v.kept.length = n
 own0 : ∀ r : Int, 0 ≤ r → r < n → 0 ≤ (v.reg r).own ∧ (v.reg r).own ≤ B
 frm : ∀ r : Int, 0 ≤ r → r < n → -1 ≤ (v.reg r).frm ∧ (v.reg r).frm < n
 neg : ∀ r : Int, 0 ≤ r → r < n → -1 ≤ (v.reg r).typ ∧ ((v.reg r).typ < 0 → (v.reg r).con = -1 ∧ (v.reg r).frm = -1 ∧ (v.reg r).field = -1)
 con : ∀ r : Int, 0 ≤ r → r < n → -1 ≤ (v.reg r).con ∧ (v.reg r).con ≤ 1000
 sm : ∀ r : Int, 0 ≤ r → r < n → (v.reg r).typ ≤ 1000 ∧ -1 ≤ (v.reg r).field ∧ (v.reg r).field ≤ 1000
 kept_ : ∀ k ∈ v.kept, -1 ≤ k ∧ k ≤ 1000
 rank : ∃ f : Int → Nat, ∀ r : Int, 0 ≤ r → r < n → 0 ≤ (v.reg r).frm → f (v.reg r).frm < f r
section
variable {v v' : VwD} {n B B' : Nat} {r t o : Int} {k : RegK}
theorem Wf.mono (h : Wf n B v) (hb : B ≤ B') : Wf n B' v := ⟨h.len, h.klen, fun r h0 h1 => ⟨(h.own0 r h0 h1).1, by have := (h.own0 r h0 h1).2; omega⟩, h.frm, h.neg, h.con, h.sm, h.kept_, h.rank⟩
theorem VwD.upd_reg (hr : 0 ≤ r) (hl : r < v.regs.length) (j : Int) (hj : 0 ≤ j) : (v.upd r k).reg j = if j = r then k else v.reg j := by
 unfold VwD.upd VwD.reg
 exact nth_set _ _ _ _ hr hl hj
/-- an update that changes neither where it was loaded from nor what is negative -/
theorem Wf.upd (h : Wf n B v) (hr : 0 ≤ r) (hl : r < n) (hB : B ≤ B') (h1 : 0 ≤ k.own ∧ k.own ≤ B') (h2 : k.frm = (v.reg r).frm) (h3 : -1 ≤ k.typ ∧ (k.typ < 0 → k.con = -1 ∧ k.frm = -1 ∧ k.field = -1)) (h4 : -1 ≤ k.con ∧ k.con ≤ 1000) (h5 : k.typ ≤ 1000 ∧ -1 ≤ k.field ∧ k.field ≤ 1000) : Wf n B' (v.upd r k) := by
 have hl' : r < v.regs.length := by rw [h.len]; exact hl
 have e := fun j hj => VwD.upd_reg (v := v) (k := k) hr hl' j hj
 obtain ⟨f, hf⟩ := h.rank
 refine ⟨by unfold VwD.upd; simpa using h.len, h.klen, fun j j0 j1 => ?_, fun j j0 j1 => ?_, fun j j0 j1 => ?_, fun j j0 j1 => ?_, fun j j0 j1 => ?_, h.kept_, f, fun j j0 j1 => ?_⟩
 all_goals rw [e j j0]; split
 ·exact h1
 ·have := h.own0 j j0 j1; exact ⟨this.1, by omega⟩
 ·rename_i hj; rw [h2, ← hj]; exact h.frm j j0 j1
 ·exact h.frm j j0 j1
 ·exact h3
 ·exact h.neg j j0 j1
 ·exact h4
 ·exact h.con j j0 j1
 ·exact h5
 ·exact h.sm j j0 j1
 ·rename_i hj; rw [h2, ← hj]; exact hf j j0 j1
 ·exact hf j j0 j1
end
end Go.Vc

namespace Go.Vc
open Go Go.Proofs Go.RowKit
set_option linter.all false
def keepV (v : VwD) (r k : Int) : VwD := ⟨v.regs, v.kept.set r.toNat k⟩
/-- the arrow type between two types, or -1 -/
def arrP (ds : List DeclD) (f t : Int) (i : Int) : Prop := (nth ds i).cons.length = 0 ∧ (nth ds i).frm = f ∧ (nth ds i).to_ = t
open Classical in
noncomputable def arrI (ds : List DeclD) (f t : Int) : Int := if ∃ i : Nat, i < ds.length ∧ arrP ds f t i then (leastM (fun i : Nat => i < ds.length ∧ arrP ds f t i) : Int) + 1 else -1
def isArr (ds : List DeclD) (t : Int) : Prop := 1 ≤ t ∧ t ≤ ds.length ∧ (nth ds (t - 1)).cons.length = 0
end Go.Vc

namespace Go.Vc
open Go Go.Proofs Go.RowKit
set_option linter.all false
def lentN (k : RegK) : Int := if k.lent = true then 1 else 0
/-- what the reference knows, in memory -/
def Vst (a : Addr) (v : VwD) (I : Items) : Prop := ∃ (x1 x2 x3 x4 x5 x6 x7 : Sl) (I0 J1 J2 J3 J4 J5 J6 J7 : Items), Cel a [x1.val, x2.val, x3.val, x4.val, x5.val, x6.val, x7.val] I0 ∧ OwnI x1 (v.regs.map RegK.typ) J1 ∧ OwnI x2 (v.regs.map RegK.own) J2 ∧ OwnI x3 (v.regs.map RegK.frm) J3 ∧ OwnI x4 (v.regs.map RegK.field) J4 ∧ OwnI x5 (v.regs.map RegK.con) J5 ∧ OwnI x6 v.kept J6 ∧ OwnI x7 (v.regs.map lentN) J7 ∧ I = I0 ++ (J1 ++ (J2 ++ (J3 ++ (J4 ++ (J5 ++ (J6 ++ J7))))))
section
variable {u w : World} {v : VwD} {a : Addr} {r n : Int} {k : RegK} {x : Sl} {I R L : Items} {f : RegK → Int}
theorem upd_set (h0 : 0 ≤ r) (h1 : r < v.regs.length) : (v.upd r k).regs.map f = (v.regs.map f).set r.toNat (f k) := by
 unfold VwD.upd
 rw [List.map_set]
theorem upd_same (h0 : 0 ≤ r) (h1 : r < v.regs.length) (hk : f k = f (v.reg r)) : (v.upd r k).regs.map f = v.regs.map f := by
 rw [upd_set h0 h1, hk]
 have e : f (v.reg r) = nth (v.regs.map f) r := by
  refine (nth_of ?_).symm
  rw [List.getElem?_map, nth_get h0 h1]
  rfl
 rw [e]
 exact set_same h0 (by simpa using h1)
theorem Vst.so1 (hV : Vst a v I) (hS : St u w (I ++ R)) : ∃ x : Sl, w.cell? (a.add 0) = some x.val ∧ Read w x (v.regs.map RegK.typ) ∧ ∀ {r n : Int} {k : RegK} {K : World → Prop}, 0 ≤ r → r < v.regs.length → InI n → k = ⟨n, (v.reg r).own, (v.reg r).lent, (v.reg r).con, (v.reg r).frm, (v.reg r).field⟩ → (∀ w' I', Vst a (v.upd r k) I' → St u w' (I' ++ R) → K w') → StoreAt w (elA x r 1) 0 [.int .i64 n] K := by
 obtain ⟨x1, x2, x3, x4, x5, x6, x7, I0, J1, J2, J3, J4, J5, J6, J7, hC, o1, o2, o3, o4, o5, o6, o7, rfl⟩ := hV
 replace hS : St u w (I0 ++ (J1 ++ (J2 ++ (J3 ++ (J4 ++ (J5 ++ (J6 ++ (J7 ++ R)))))))) := by simpa [List.append_assoc] using hS
 refine ⟨x1, Cel.load hC hS rfl, o1.read hS, fun {r n k K} h0 h1 hn hk kk => ?_⟩
 refine st_int (o1 u) hS h0 (by simpa using h1) hn ?_
 intro w2 J hO hS
 exact kk w2 (I0 ++ (J ++ (J2 ++ (J3 ++ (J4 ++ (J5 ++ (J6 ++ J7))))))) ⟨x1, x2, x3, x4, x5, x6, x7, I0, J, J2, J3, J4, J5, J6, J7, hC, (by rw [upd_set h0 h1, show RegK.typ k = n from by rw [hk]]; exact hO.toI), (by rw [upd_same h0 h1 (by rw [hk])]; exact o2), (by rw [upd_same h0 h1 (by rw [hk])]; exact o3), (by rw [upd_same h0 h1 (by rw [hk])]; exact o4), (by rw [upd_same h0 h1 (by rw [hk])]; exact o5), o6, (by rw [upd_same h0 h1 (by rw [hk]; rfl)]; exact o7), rfl⟩ (by simpa [List.append_assoc] using hS)
theorem Vst.so2 (hV : Vst a v I) (hS : St u w (I ++ R)) : ∃ x : Sl, w.cell? (a.add 1) = some x.val ∧ Read w x (v.regs.map RegK.own) ∧ ∀ {r n : Int} {k : RegK} {K : World → Prop}, 0 ≤ r → r < v.regs.length → InI n → k = ⟨(v.reg r).typ, n, (v.reg r).lent, (v.reg r).con, (v.reg r).frm, (v.reg r).field⟩ → (∀ w' I', Vst a (v.upd r k) I' → St u w' (I' ++ R) → K w') → StoreAt w (elA x r 1) 0 [.int .i64 n] K := by
 obtain ⟨x1, x2, x3, x4, x5, x6, x7, I0, J1, J2, J3, J4, J5, J6, J7, hC, o1, o2, o3, o4, o5, o6, o7, rfl⟩ := hV
 replace hS : St u w (I0 ++ (J1 ++ (J2 ++ (J3 ++ (J4 ++ (J5 ++ (J6 ++ (J7 ++ R)))))))) := by simpa [List.append_assoc] using hS
 refine ⟨x2, Cel.load hC hS rfl, o2.read hS, fun {r n k K} h0 h1 hn hk kk => ?_⟩
 refine st_int (o2 u) hS h0 (by simpa using h1) hn ?_
 intro w2 J hO hS
 exact kk w2 (I0 ++ (J1 ++ (J ++ (J3 ++ (J4 ++ (J5 ++ (J6 ++ J7))))))) ⟨x1, x2, x3, x4, x5, x6, x7, I0, J1, J, J3, J4, J5, J6, J7, hC, (by rw [upd_same h0 h1 (by rw [hk])]; exact o1), (by rw [upd_set h0 h1, show RegK.own k = n from by rw [hk]]; exact hO.toI), (by rw [upd_same h0 h1 (by rw [hk])]; exact o3), (by rw [upd_same h0 h1 (by rw [hk])]; exact o4), (by rw [upd_same h0 h1 (by rw [hk])]; exact o5), o6, (by rw [upd_same h0 h1 (by rw [hk]; rfl)]; exact o7), rfl⟩ (by simpa [List.append_assoc] using hS)
theorem Vst.so3 (hV : Vst a v I) (hS : St u w (I ++ R)) : ∃ x : Sl, w.cell? (a.add 2) = some x.val ∧ Read w x (v.regs.map RegK.frm) ∧ ∀ {r n : Int} {k : RegK} {K : World → Prop}, 0 ≤ r → r < v.regs.length → InI n → k = ⟨(v.reg r).typ, (v.reg r).own, (v.reg r).lent, (v.reg r).con, n, (v.reg r).field⟩ → (∀ w' I', Vst a (v.upd r k) I' → St u w' (I' ++ R) → K w') → StoreAt w (elA x r 1) 0 [.int .i64 n] K := by
 obtain ⟨x1, x2, x3, x4, x5, x6, x7, I0, J1, J2, J3, J4, J5, J6, J7, hC, o1, o2, o3, o4, o5, o6, o7, rfl⟩ := hV
 replace hS : St u w (I0 ++ (J1 ++ (J2 ++ (J3 ++ (J4 ++ (J5 ++ (J6 ++ (J7 ++ R)))))))) := by simpa [List.append_assoc] using hS
 refine ⟨x3, Cel.load hC hS rfl, o3.read hS, fun {r n k K} h0 h1 hn hk kk => ?_⟩
 refine st_int (o3 u) hS h0 (by simpa using h1) hn ?_
 intro w2 J hO hS
 exact kk w2 (I0 ++ (J1 ++ (J2 ++ (J ++ (J4 ++ (J5 ++ (J6 ++ J7))))))) ⟨x1, x2, x3, x4, x5, x6, x7, I0, J1, J2, J, J4, J5, J6, J7, hC, (by rw [upd_same h0 h1 (by rw [hk])]; exact o1), (by rw [upd_same h0 h1 (by rw [hk])]; exact o2), (by rw [upd_set h0 h1, show RegK.frm k = n from by rw [hk]]; exact hO.toI), (by rw [upd_same h0 h1 (by rw [hk])]; exact o4), (by rw [upd_same h0 h1 (by rw [hk])]; exact o5), o6, (by rw [upd_same h0 h1 (by rw [hk]; rfl)]; exact o7), rfl⟩ (by simpa [List.append_assoc] using hS)
theorem Vst.so4 (hV : Vst a v I) (hS : St u w (I ++ R)) : ∃ x : Sl, w.cell? (a.add 3) = some x.val ∧ Read w x (v.regs.map RegK.field) ∧ ∀ {r n : Int} {k : RegK} {K : World → Prop}, 0 ≤ r → r < v.regs.length → InI n → k = ⟨(v.reg r).typ, (v.reg r).own, (v.reg r).lent, (v.reg r).con, (v.reg r).frm, n⟩ → (∀ w' I', Vst a (v.upd r k) I' → St u w' (I' ++ R) → K w') → StoreAt w (elA x r 1) 0 [.int .i64 n] K := by
 obtain ⟨x1, x2, x3, x4, x5, x6, x7, I0, J1, J2, J3, J4, J5, J6, J7, hC, o1, o2, o3, o4, o5, o6, o7, rfl⟩ := hV
 replace hS : St u w (I0 ++ (J1 ++ (J2 ++ (J3 ++ (J4 ++ (J5 ++ (J6 ++ (J7 ++ R)))))))) := by simpa [List.append_assoc] using hS
 refine ⟨x4, Cel.load hC hS rfl, o4.read hS, fun {r n k K} h0 h1 hn hk kk => ?_⟩
 refine st_int (o4 u) hS h0 (by simpa using h1) hn ?_
 intro w2 J hO hS
 exact kk w2 (I0 ++ (J1 ++ (J2 ++ (J3 ++ (J ++ (J5 ++ (J6 ++ J7))))))) ⟨x1, x2, x3, x4, x5, x6, x7, I0, J1, J2, J3, J, J5, J6, J7, hC, (by rw [upd_same h0 h1 (by rw [hk])]; exact o1), (by rw [upd_same h0 h1 (by rw [hk])]; exact o2), (by rw [upd_same h0 h1 (by rw [hk])]; exact o3), (by rw [upd_set h0 h1, show RegK.field k = n from by rw [hk]]; exact hO.toI), (by rw [upd_same h0 h1 (by rw [hk])]; exact o5), o6, (by rw [upd_same h0 h1 (by rw [hk]; rfl)]; exact o7), rfl⟩ (by simpa [List.append_assoc] using hS)
theorem Vst.so5 (hV : Vst a v I) (hS : St u w (I ++ R)) : ∃ x : Sl, w.cell? (a.add 4) = some x.val ∧ Read w x (v.regs.map RegK.con) ∧ ∀ {r n : Int} {k : RegK} {K : World → Prop}, 0 ≤ r → r < v.regs.length → InI n → k = ⟨(v.reg r).typ, (v.reg r).own, (v.reg r).lent, n, (v.reg r).frm, (v.reg r).field⟩ → (∀ w' I', Vst a (v.upd r k) I' → St u w' (I' ++ R) → K w') → StoreAt w (elA x r 1) 0 [.int .i64 n] K := by
 obtain ⟨x1, x2, x3, x4, x5, x6, x7, I0, J1, J2, J3, J4, J5, J6, J7, hC, o1, o2, o3, o4, o5, o6, o7, rfl⟩ := hV
 replace hS : St u w (I0 ++ (J1 ++ (J2 ++ (J3 ++ (J4 ++ (J5 ++ (J6 ++ (J7 ++ R)))))))) := by simpa [List.append_assoc] using hS
 refine ⟨x5, Cel.load hC hS rfl, o5.read hS, fun {r n k K} h0 h1 hn hk kk => ?_⟩
 refine st_int (o5 u) hS h0 (by simpa using h1) hn ?_
 intro w2 J hO hS
 exact kk w2 (I0 ++ (J1 ++ (J2 ++ (J3 ++ (J4 ++ (J ++ (J6 ++ J7))))))) ⟨x1, x2, x3, x4, x5, x6, x7, I0, J1, J2, J3, J4, J, J6, J7, hC, (by rw [upd_same h0 h1 (by rw [hk])]; exact o1), (by rw [upd_same h0 h1 (by rw [hk])]; exact o2), (by rw [upd_same h0 h1 (by rw [hk])]; exact o3), (by rw [upd_same h0 h1 (by rw [hk])]; exact o4), (by rw [upd_set h0 h1, show RegK.con k = n from by rw [hk]]; exact hO.toI), o6, (by rw [upd_same h0 h1 (by rw [hk]; rfl)]; exact o7), rfl⟩ (by simpa [List.append_assoc] using hS)
theorem Vst.so6 (hV : Vst a v I) (hS : St u w (I ++ R)) : ∃ x : Sl, w.cell? (a.add 5) = some x.val ∧ Read w x v.kept ∧ ∀ {r n : Int} {K : World → Prop}, 0 ≤ r → r < v.kept.length → InI n → (∀ w' I', Vst a (keepV v r n) I' → St u w' (I' ++ R) → K w') → StoreAt w (elA x r 1) 0 [.int .i64 n] K := by
 obtain ⟨x1, x2, x3, x4, x5, x6, x7, I0, J1, J2, J3, J4, J5, J6, J7, hC, o1, o2, o3, o4, o5, o6, o7, rfl⟩ := hV
 replace hS : St u w (I0 ++ (J1 ++ (J2 ++ (J3 ++ (J4 ++ (J5 ++ (J6 ++ (J7 ++ R)))))))) := by simpa [List.append_assoc] using hS
 refine ⟨x6, Cel.load hC hS rfl, o6.read hS, fun {r n K} h0 h1 hn kk => ?_⟩
 refine st_int (o6 u) hS h0 h1 hn ?_
 intro w2 J hO hS
 exact kk w2 (I0 ++ (J1 ++ (J2 ++ (J3 ++ (J4 ++ (J5 ++ (J ++ J7))))))) ⟨x1, x2, x3, x4, x5, x6, x7, I0, J1, J2, J3, J4, J5, J, J7, hC, o1, o2, o3, o4, o5, hO.toI, o7, rfl⟩ (by simpa [List.append_assoc] using hS)
theorem Vst.so7 (hV : Vst a v I) (hS : St u w (I ++ R)) : ∃ x : Sl, w.cell? (a.add 6) = some x.val ∧ Read w x (v.regs.map lentN) ∧ ∀ {r n : Int} {k : RegK} {K : World → Prop}, 0 ≤ r → r < v.regs.length → k = ⟨(v.reg r).typ, (v.reg r).own, k.lent, (v.reg r).con, (v.reg r).frm, (v.reg r).field⟩ → n = lentN k → (∀ w' I', Vst a (v.upd r k) I' → St u w' (I' ++ R) → K w') → StoreAt w (elA x r 1) 0 [.int .i64 n] K := by
 obtain ⟨x1, x2, x3, x4, x5, x6, x7, I0, J1, J2, J3, J4, J5, J6, J7, hC, o1, o2, o3, o4, o5, o6, o7, rfl⟩ := hV
 replace hS : St u w (I0 ++ (J1 ++ (J2 ++ (J3 ++ (J4 ++ (J5 ++ (J6 ++ (J7 ++ R)))))))) := by simpa [List.append_assoc] using hS
 refine ⟨x7, Cel.load hC hS rfl, o7.read hS, fun {r n k K} h0 h1 hk hn kk => ?_⟩
 subst hn
 refine st_int (o7 u) hS h0 (by simpa using h1) (show InI (lentN k) by unfold lentN; split <;> exact ⟨by omega, by omega⟩) ?_
 intro w2 J hO hS
 exact kk w2 (I0 ++ (J1 ++ (J2 ++ (J3 ++ (J4 ++ (J5 ++ (J6 ++ J))))))) ⟨x1, x2, x3, x4, x5, x6, x7, I0, J1, J2, J3, J4, J5, J6, J, hC, (by rw [upd_same h0 h1 (by rw [hk])]; exact o1), (by rw [upd_same h0 h1 (by rw [hk])]; exact o2), (by rw [upd_same h0 h1 (by rw [hk])]; exact o3), (by rw [upd_same h0 h1 (by rw [hk])]; exact o4), (by rw [upd_same h0 h1 (by rw [hk])]; exact o5), o6, (by rw [upd_set h0 h1]; exact hO.toI), rfl⟩ (by simpa [List.append_assoc] using hS)
/-- .. read -/
def VRd (w : World) (a : Addr) (v : VwD) : Prop := ∃ (x1 x2 x3 x4 x5 x6 x7 : Sl), (w.cell? (a.add 0) = some x1.val ∧ Read w x1 (v.regs.map RegK.typ)) ∧ (w.cell? (a.add 1) = some x2.val ∧ Read w x2 (v.regs.map RegK.own)) ∧ (w.cell? (a.add 2) = some x3.val ∧ Read w x3 (v.regs.map RegK.frm)) ∧ (w.cell? (a.add 3) = some x4.val ∧ Read w x4 (v.regs.map RegK.field)) ∧ (w.cell? (a.add 4) = some x5.val ∧ Read w x5 (v.regs.map RegK.con)) ∧ (w.cell? (a.add 5) = some x6.val ∧ Read w x6 v.kept) ∧ (w.cell? (a.add 6) = some x7.val ∧ Read w x7 (v.regs.map lentN))
theorem VRd.k1 (h : VRd w a v) : ∃ x : Sl, w.cell? (a.add 0) = some x.val ∧ Read w x (v.regs.map RegK.typ) := let ⟨x1, x2, x3, x4, x5, x6, x7, h1, h2, h3, h4, h5, h6, h7⟩ := h; ⟨x1, h1⟩
theorem VRd.k2 (h : VRd w a v) : ∃ x : Sl, w.cell? (a.add 1) = some x.val ∧ Read w x (v.regs.map RegK.own) := let ⟨x1, x2, x3, x4, x5, x6, x7, h1, h2, h3, h4, h5, h6, h7⟩ := h; ⟨x2, h2⟩
theorem VRd.k3 (h : VRd w a v) : ∃ x : Sl, w.cell? (a.add 2) = some x.val ∧ Read w x (v.regs.map RegK.frm) := let ⟨x1, x2, x3, x4, x5, x6, x7, h1, h2, h3, h4, h5, h6, h7⟩ := h; ⟨x3, h3⟩
theorem VRd.k4 (h : VRd w a v) : ∃ x : Sl, w.cell? (a.add 3) = some x.val ∧ Read w x (v.regs.map RegK.field) := let ⟨x1, x2, x3, x4, x5, x6, x7, h1, h2, h3, h4, h5, h6, h7⟩ := h; ⟨x4, h4⟩
theorem VRd.k5 (h : VRd w a v) : ∃ x : Sl, w.cell? (a.add 4) = some x.val ∧ Read w x (v.regs.map RegK.con) := let ⟨x1, x2, x3, x4, x5, x6, x7, h1, h2, h3, h4, h5, h6, h7⟩ := h; ⟨x5, h5⟩
theorem VRd.k6 (h : VRd w a v) : ∃ x : Sl, w.cell? (a.add 5) = some x.val ∧ Read w x v.kept := let ⟨x1, x2, x3, x4, x5, x6, x7, h1, h2, h3, h4, h5, h6, h7⟩ := h; ⟨x6, h6⟩
theorem VRd.k7 (h : VRd w a v) : ∃ x : Sl, w.cell? (a.add 6) = some x.val ∧ Read w x (v.regs.map lentN) := let ⟨x1, x2, x3, x4, x5, x6, x7, h1, h2, h3, h4, h5, h6, h7⟩ := h; ⟨x7, h7⟩
theorem Vst.rd (hV : Vst a v I) (hS : St u w (I ++ R)) : VRd w a v := by
 obtain ⟨x1, a1, b1, _⟩ := hV.so1 hS
 obtain ⟨x2, a2, b2, _⟩ := hV.so2 hS
 obtain ⟨x3, a3, b3, _⟩ := hV.so3 hS
 obtain ⟨x4, a4, b4, _⟩ := hV.so4 hS
 obtain ⟨x5, a5, b5, _⟩ := hV.so5 hS
 obtain ⟨x6, a6, b6, _⟩ := hV.so6 hS
 obtain ⟨x7, a7, b7, _⟩ := hV.so7 hS
 exact ⟨x1, x2, x3, x4, x5, x6, x7, ⟨a1, b1⟩, ⟨a2, b2⟩, ⟨a3, b3⟩, ⟨a4, b4⟩, ⟨a5, b5⟩, ⟨a6, b6⟩, ⟨a7, b7⟩⟩
theorem VRd.mono {w2 : World} (h : VRd w a v) (hs : Sub w w2) : VRd w2 a v := let ⟨x1, x2, x3, x4, x5, x6, x7, h1, h2, h3, h4, h5, h6, h7⟩ := h; ⟨x1, x2, x3, x4, x5, x6, x7, ⟨cell_sub hs h1.1, h1.2.mono hs⟩, ⟨cell_sub hs h2.1, h2.2.mono hs⟩, ⟨cell_sub hs h3.1, h3.2.mono hs⟩, ⟨cell_sub hs h4.1, h4.2.mono hs⟩, ⟨cell_sub hs h5.1, h5.2.mono hs⟩, ⟨cell_sub hs h6.1, h6.2.mono hs⟩, ⟨cell_sub hs h7.1, h7.2.mono hs⟩⟩
end
end Go.Vc

namespace Go.Vc
open Go Go.Proofs Go.RowKit
set_option linter.all false
/-- the end of a function that changes what is known -/
def OpR (u : World) (R : Items) (a : Addr) : Option VwD → Value → World → Prop
 | none, r, w => r = .bool false ∧ Sub u w
 | some v, r, w => ∃ I, r = .bool true ∧ Vst a v I ∧ St u w (I ++ R)
section
variable {u w : World} {v : VwD} {a : Addr} {r t n i : Int} {k : RegK} {x y : Sl} {I R L : Items} {N B : Nat} {ds : List DeclD} {ss : List SigD} {c : InstrD}
end
end Go.Vc

namespace Go.Vc
open Go Go.Proofs Go.RowKit
set_option linter.all false
theorem OpR.use {u : World} {R : Items} {a : Addr} {P : Program} {f : FuncId} {args : Array Value} {w : World} {o : Option VwD} {K : Value → World → Prop} (h : Trip P f args w (OpR u R a o))
  (k1 : o = none → ∀ w', Sub u w' → K (.bool false) w') (k2 : ∀ v' I w', o = some v' → Vst a v' I → St u w' (I ++ R) → K (.bool true) w') : Trip P f args w K := by
 refine h.mono' fun r w' hr => ?_
 cases o with
 | none => obtain ⟨rfl, hs⟩ := hr; exact k1 rfl _ hs
 | some v' => obtain ⟨I, rfl, hV, hS⟩ := hr; exact k2 _ _ _ rfl hV hS
section
variable {u w : World} {v v' : VwD} {a : Addr} {r t n i o : Int} {k k' : RegK} {x y z : Sl} {I R L : Items} {N B B' : Nat} {ds : List DeclD} {ss : List SigD} {ps : List ProcD} {c : InstrD} {ts : List Int}
theorem VwD.ext' (hl : v.regs.length = v'.regs.length) (hr : ∀ j : Int, 0 ≤ j → j < v.regs.length → v.reg j = v'.reg j) (hk : v.kept = v'.kept) : v = v' := by
 obtain ⟨a, b⟩ := v
 obtain ⟨a', b'⟩ := v'
 have : a = a' := by
  refine List.ext_getElem? fun i => ?_
  by_cases hi : i < a.length
  ·have := hr i (by omega) (by show (i : Int) < a.length; omega)
   have e1 := nth_get (l := a) (i := i) (by omega) (by omega)
   have e2 := nth_get (l := a') (i := i) (by omega) (by have : a.length = a'.length := hl; omega)
   rw [show ((i : Int)).toNat = i from by omega] at e1 e2
   rw [e1, e2]
   exact congrArg some this
  ·rw [List.getElem?_eq_none (by omega), List.getElem?_eq_none (by have : a.length = a'.length := hl; omega)]
 subst this
 cases hk
 rfl
end
end Go.Vc

namespace Go.Vc
open Go Go.Proofs Go.RowKit
set_option linter.all false
/-- an instruction of a valid image, as it lies in memory -/
structure InD (u : World) (x y ax jx : Sl) (ds : List DeclD) (ps : List ProcD) (N : Nat) (e_ at_ : Int) (c : InstrD) : Prop where
 hx : Read u x ds
 hy : Read u y ps
 hax : Read u ax c.args
 hjx : Read u jx c.jumps
 sg : sigSigs ds (ps.map sigOf)
 ok : instrOk ds (ps.map sigOf) N e_ at_ c
 hN : N ≤ 2000
 a0 : 0 ≤ at_
 he : e_ ≤ 2000
theorem OpR.ret {P : Program} {f : FuncId} {args : Array Value} {u w : World} {R : Items} {a : Addr} {o : Option VwD} (h : Trip P f args w (OpR u R a o)) : Trip P f args w fun r w' => ∃ q : Bool, r = .bool q ∧ OpR u R a o (.bool q) w' := by
 refine OpR.use h (fun hn w' hs => ?_) (fun v' I' w' hn hV hS => ?_)
 ·subst hn; exact ⟨false, rfl, rfl, hs⟩
 ·subst hn; exact ⟨true, rfl, I', rfl, hV, hS⟩
theorem OpR.bind {P : Program} {f f2 : FuncId} {args args2 : Array Value} {u w : World} {R : Items} {a : Addr} {o : Option VwD} {g : VwD → Option VwD} (h : Trip P f args w (OpR u R a o))
  (k : ∀ v' I w', o = some v' → Vst a v' I → St u w' (I ++ R) → Trip P f2 args2 w' (OpR u R a (g v'))) :
  Trip P f args w fun r w' => ∃ q : Bool, r = .bool q ∧ (q = true → Trip P f2 args2 w' fun r1 w2 => ∃ q : Bool, r1 = .bool q ∧ OpR u R a (o.bind g) (.bool q) w2) ∧ (q = false → OpR u R a (o.bind g) (.bool false) w') := by
 refine OpR.use h (fun hn w' hs => ?_) (fun v' I' w' hn hV hS => ?_)
 ·subst hn; exact ⟨false, rfl, (fun h => by cases h), fun _ => ⟨rfl, hs⟩⟩
 ·have := k v' I' w' hn hV hS
  subst hn
  exact ⟨true, rfl, fun _ => OpR.ret this, fun h => by cases h⟩
section
variable {u w : World} {v v' : VwD} {a : Addr} {r t n i o e_ at_ f m : Int} {k k' : RegK} {x y z ax jx : Sl} {I R L : Items} {N B B' : Nat} {ds : List DeclD} {ss : List SigD} {ps : List ProcD} {c : InstrD} {ts : List Int}
theorem InD.mono {u' : World} (h : InD u x y ax jx ds ps N e_ at_ c) (hs : Sub u u') : InD u' x y ax jx ds ps N e_ at_ c := ⟨h.hx.mono hs, h.hy.mono hs, h.hax.mono hs, h.hjx.mono hs, h.sg, h.ok, h.hN, h.a0, h.he⟩
theorem InD.sm (h : InD u x y ax jx ds ps N e_ at_ c) : SmInstr c := instr_sm h.sg (by have := h.hN; omega) h.a0 h.he h.ok
theorem InD.args (h : InD u x y ax jx ds ps N e_ at_ c) : ∀ k : Int, 0 ≤ k → k < c.args.length → 0 ≤ nth c.args k ∧ nth c.args k < N := fun k k0 k1 => by
 have := List.all_eq_true.1 h.ok.2.1 _ (nth_mem k0 k1)
 unfold laterB at this
 simp only [Bool.and_eq_true, decide_eq_true_eq] at this
 omega
theorem InD.dst (h : InD u x y ax jx ds ps N e_ at_ c) : 0 ≤ c.dst ∧ c.dst < N := h.ok.2.2.1
theorem InD.call (h : InD u x y ax jx ds ps N e_ at_ c) : c.op = 9 ∨ c.op = 24 → 0 ≤ c.num ∧ c.num < ps.length := fun hop => by
 have := (numV_call hop).1 h.ok.2.2.2.2.2.2.2.2.1
 rw [List.length_map] at this
 exact this
theorem InD.smd (h : InD u x y ax jx ds ps N e_ at_ c) : SmDs ds := h.sg.1.sm
theorem Wf.keep (h : Wf N B v) (hn : -1 ≤ n ∧ n ≤ 1000) : Wf N B (keepV v r n) := by
 refine ⟨h.len, by unfold keepV; simpa using h.klen, h.own0, h.frm, h.neg, h.con, h.sm, fun k hk => ?_, h.rank⟩
 rcases List.mem_or_eq_of_mem_set hk with h1 | rfl
 ·exact h.kept_ k h1
 ·exact hn
theorem c_conFieldsR {v : World} (hx : Read v x ds) (hd : SmDs ds) (hn : InI n) : Mk Try.prog 51 #[x.val, .int .i64 n] v fun r J => ∃ z : Sl, r = z.val ∧ ∀ w, St v w J → Read w z (conF ds n) := by
 refine of51 _ _ _ _ ?_
 unfold vc51
 have hxn := hx.n
 have hS := St.refl v
 have hlen := hd.len
 refine ⟨_, c_specConType hx hd, fun hq => ?_, fun hq => ?_⟩
 ·simp only [bls] at hq
  have hc : conI ds n < 0 := by
   unfold conTyV at hq
   split at hq
   ·assumption
   ·omega
  refine St.build (α := Int) hS (by (repeat' (first | exact VsOf.nil | apply VsOf.cons | (apply VOf.int; first | assumption | (constructor <;> first | omega | (simp only [List.length_set, List.length_append, List.length_replicate, List.length_cons, List.length_nil, List.length_take, List.length_drop, List.length_map, List.length_singleton] at *; omega))) | exact VOf.bool | exact VOf.str))) rfl (by decide) ?_
  intro z0 w0 I0 hO0 hS hs
  refine ⟨_, rfl, I0, by simpa using hS, z0, rfl, fun w hS => ?_⟩
  unfold conF
  rw [if_pos hc]
  exact hO0.read1 hS
 ·simp only [bls] at hq
  rcases conI_cases ds n with ⟨h1, _⟩ | ⟨h1, h2, h3, h4⟩
  ·unfold conTyV at hq; rw [if_pos (by omega)] at hq; omega
  have e : conTyV ds n = conI ds n + 1 := by unfold conTyV; rw [if_neg (by omega)]
  rw [show conTyV ds n - 1 = conI ds n from by rw [e]; omega]
  have hfc := hd.fc (conI ds n).toNat (by omega)
  obtain ⟨q1, q2⟩ := h3
  refine go_wr (by omega) (by omega) ?_
  refine go_ix hx h1 h2 ?_
  refine ld_decl_cons (hx.src (.refl v)) h1 h2 ?_
  intro g hg
  refine go_wr (by omega) (by omega) ?_
  refine ⟨_, c_firstCon hx (by omega) (fun d h => by have := hd.cons d h; omega) h1 (by omega), ?_⟩
  have hcl := hd.cons _ (nth_mem (l := ds) h1 h2)
  refine go_wr (by omega) (by omega) ?_
  refine go_ix hg (by omega) (by omega) ?_
  refine ld_con_fields (hg.src (.refl v)) (by omega) (by omega) ?_
  intro g2 hg2
  refine ⟨[], hS, g2, rfl, fun w hS => ?_⟩
  unfold conF
  rw [if_neg (by omega)]
  exact hg2.mono hS.sub
end
end Go.Vc

namespace Go.Vc
open Go Go.Proofs Go.RowKit
set_option linter.all false
section
variable {u w : World} {v v' : VwD} {a : Addr} {r t n i o e_ at_ f m : Int} {k k' : RegK} {x y z ax jx : Sl} {I R L : Items} {N B B' : Nat} {ds : List DeclD} {ss : List SigD} {ps : List ProcD} {c : InstrD} {ts : List Int}
theorem conF_typ (h : typesOk ds) (h0 : 0 ≤ i) (h1 : i < (conF ds n).length) : 0 ≤ nth (conF ds n) i ∧ nth (conF ds n) i ≤ 4 := by
 have hm := nth_mem (l := conF ds n) h0 h1
 have hl := h.1
 revert hm
 generalize nth (conF ds n) i = e
 unfold conF
 split
 ·intro hm; cases hm
 ·intro hm
  rename_i hp
  rcases conI_cases ds n with ⟨g1, _⟩ | ⟨g1, g2, ⟨q1, q2⟩, g4⟩
  ·omega
  ·have := List.all_eq_true.1 ((declOk_easy (h.2 _ g1 g2)).2.2.2.2.1 _ (nth_mem (by omega) (by omega))).2 _ hm
   unfold typeB at this
   simp only [Bool.and_eq_true, decide_eq_true_eq] at this
   omega
end
end Go.Vc

namespace Go.Vc
open Go Go.Proofs Go.RowKit
set_option linter.all false
section
variable {u w : World} {v v' : VwD} {a : Addr} {r t n i o e_ at_ f m : Int} {k k' : RegK} {x y z ax jx px lx cx : Sl} {I R L : Items} {N B B' : Nat} {ds : List DeclD} {ss : List SigD} {ps : List ProcD} {c : InstrD} {ts : List Int}
theorem arrI_some (h0 : 0 ≤ i) (h1 : i < ds.length) (h : arrP ds f t i) (hm : ∀ j : Int, 0 ≤ j → j < i → ¬ arrP ds f t j) : arrI ds f t = i + 1 := by
 have hex : ∃ k : Nat, k < ds.length ∧ arrP ds f t k := ⟨i.toNat, by omega, by rw [show ((i.toNat : Nat) : Int) = i from by omega]; exact h⟩
 unfold arrI
 rw [if_pos hex]
 have h2 := leastM_spec hex
 have h3 := leastM_le (p := fun k : Nat => k < ds.length ∧ arrP ds f t k) (k := i.toNat) ⟨by omega, by rw [show ((i.toNat : Nat) : Int) = i from by omega]; exact h⟩
 have h4 : ¬ (leastM (fun k : Nat => k < ds.length ∧ arrP ds f t k) : Int) < i := fun hh => hm _ (by omega) hh h2.2
 omega
theorem arrI_none (h : ∀ j : Int, 0 ≤ j → j < ds.length → ¬ arrP ds f t j) : arrI ds f t = -1 := by
 unfold arrI
 rw [if_neg]
 rintro ⟨k, hk, hp⟩
 exact h k (by omega) (by omega) hp
theorem arrI_bd (hl : ds.length ≤ 4) : arrI ds f t = -1 ∨ (1 ≤ arrI ds f t ∧ arrI ds f t ≤ 4) := by
 unfold arrI
 split
 ·rename_i hex
  have := (leastM_spec hex).1
  omega
 ·exact .inl rfl
theorem c_arrowOf {v : World} (hx : Read v x ds) (hl : ds.length ≤ 4) : Fn Try.prog 76 #[x.val, .int .i64 f, .int .i64 t] v (.int .i64 (arrI ds f t)) := by
 refine of76 _ _ _ _ _ ?_
 unfold vc76
 have hn := hx.n
 refine ⟨fun i w => v = w ∧ 0 ≤ i ∧ i ≤ ds.length ∧ ∀ j : Int, 0 ≤ j → j < i → ¬ arrP ds f t j, fun i _ => (ds.length - i).toNat, ⟨rfl, by omega, by omega, fun j j0 j1 => by omega⟩, ?_⟩
 rintro i _ ⟨rfl, i0, i1, hj⟩
 refine ⟨fun hi => ?_, fun hi => ?_⟩
 ·simp only [bls] at hi
  have hil : i < ds.length := by omega
  obtain ⟨f_cons, e1, e2, e3, j1, j2, r1⟩ := (hx.src (.refl v)).ofDeclD i0 hil
  have hcn := r1.n
  refine go_ix hx i0 hil ?_
  refine ⟨f_cons, e3, ?_⟩
  refine go_ixg hx (fun _ => ⟨i0, hil⟩) ?_
  refine ⟨_, fun _ => e1, ?_⟩
  refine go_ixg hx (fun _ => ⟨i0, hil⟩) ?_
  refine ⟨_, fun _ => e2, ?_⟩
  refine ⟨fun hq => ?_, fun hq => ?_⟩
  ·simp only [bls] at hq
   refine go_wr (by omega) (by omega) ?_
   exact ⟨by rw [arrI_some i0 hil ⟨by omega, hq.1.2, hq.2⟩ hj], .refl _⟩
  ·refine go_wr (by omega) (by omega) ?_
   refine ⟨⟨rfl, by omega, by omega, fun j j0 j1 => ?_⟩, by dsimp only; omega⟩
   by_cases e : j = i
   ·subst e
    rintro ⟨q1, q2, q3⟩
    have : f_cons.n = 0 := by omega
    simp [this, q2, q3] at hq
   ·exact hj j j0 (by omega)
 ·simp only [bls] at hi
  exact ⟨by rw [arrI_none fun j j0 j1 => hj j j0 (by omega)], .refl _⟩
theorem c_isArrow {v : World} (hx : Read v x ds) (hl : ds.length ≤ 4) : ∃ q, (q = true ↔ isArr ds n) ∧ Fn Try.prog 54 #[x.val, .int .i64 n] v (.bool q) := by
 classical
 refine ⟨decide (isArr ds n), by simp, ?_⟩
 refine of54 _ _ _ _ ?_
 unfold vc54
 have hn := hx.n
 refine ⟨_, c_inRange, ?_⟩
 have hg : (decide (1 ≤ n) && decide (n ≤ (x.n : Int))) = true → 1 ≤ n ∧ n ≤ ds.length := fun h => by simp only [bls] at h; omega
 refine go_wrg (fun h => by have := hg h; omega) ?_
 refine go_ixg hx (fun h => by have := hg h; omega) ?_
 refine ldg_decl_cons (hx.src (.refl v)) (fun h => by have := hg h; omega) ?_
 intro g hr
 refine ⟨?_, .refl _⟩
 congr 1
 rw [Bool.eq_iff_iff]
 simp only [Bool.and_eq_true, decide_eq_true_eq]
 constructor
 ·intro h
  have := (hr (by simp only [Bool.and_eq_true, decide_eq_true_eq]; exact h.1)).n
  exact ⟨h.1.1, by omega, by omega⟩
 ·rintro ⟨q1, q2, q3⟩
  have := (hr (by simp only [Bool.and_eq_true, decide_eq_true_eq]; omega)).n
  exact ⟨⟨q1, by omega⟩, by omega⟩
end
end Go.Vc

namespace Go.Vc
open Go Go.Proofs Go.RowKit
set_option linter.all false
section
variable {u w : World} {v v' : VwD} {a : Addr} {r t n i o e_ at_ f m : Int} {k k' : RegK} {x y z ax jx px lx cx : Sl} {I R L : Items} {N B B' : Nat} {ds : List DeclD} {ss : List SigD} {ps : List ProcD} {c : InstrD} {ts : List Int}
end
end Go.Vc

namespace Go.Vc
open Go Go.Proofs Go.RowKit
set_option linter.all false
/-- an instruction of a valid image -/
structure InP (ds : List DeclD) (ss : List SigD) (N : Nat) (e_ at_ : Int) (c : InstrD) : Prop where
 sg : sigSigs ds ss
 ok : instrOk ds ss N e_ at_ c
 hN : N ≤ 2000
section
variable {u w : World} {v v' : VwD} {a : Addr} {r t n i o e_ at_ f m rr : Int} {k k' : RegK} {x y z ax jx px lx cx : Sl} {I R L : Items} {N B B' : Nat} {ds : List DeclD} {ss : List SigD} {ps : List ProcD} {c : InstrD} {ts : List Int} {F F' : List (Option VwD)}
theorem InD.P (h : InD u x y ax jx ds ps N e_ at_ c) : InP ds (ps.map sigOf) N e_ at_ c := ⟨h.sg, h.ok, h.hN⟩
theorem InP.args (h : InP ds ss N e_ at_ c) : ∀ k : Int, 0 ≤ k → k < c.args.length → 0 ≤ nth c.args k ∧ nth c.args k < N := fun k k0 k1 => by
 have := List.all_eq_true.1 h.ok.2.1 _ (nth_mem k0 k1)
 unfold laterB at this
 simp only [Bool.and_eq_true, decide_eq_true_eq] at this
 omega
theorem InP.dst (h : InP ds ss N e_ at_ c) : 0 ≤ c.dst ∧ c.dst < N := h.ok.2.2.1
/-! ### joins -/
/-- all that is known is well-formed -/
def WfF (N B : Nat) (F : List (Option VwD)) : Prop := ∀ (i : Int) (v : VwD), nth F i = some v → Wf N B v
theorem WfF.mono (h : WfF N B F) (hb : B ≤ B') : WfF N B' F := fun i v hv => (h i v hv).mono hb
theorem WfF.set (h : WfF N B F) (hv : Wf N B v) (h0 : 0 ≤ i) (h1 : i < F.length) : WfF N B (F.set i.toNat (some v)) := by
 intro j v2 hj
 by_cases j0 : 0 ≤ j
 ·rw [nth_set _ _ _ _ h0 h1 j0] at hj
  split at hj
  ·cases hj; exact hv
  ·exact h j v2 hj
 ·have e : nth (F.set i.toNat (some v)) j = nth (F.set i.toNat (some v)) 0 := by unfold nth; rw [show j.toNat = (0 : Int).toNat from by omega]
  rw [e, nth_set _ _ _ _ h0 h1 (Int.le_refl 0)] at hj
  split at hj
  ·cases hj; exact hv
  ·exact h 0 v2 hj
end
end Go.Vc

namespace Go.Vc
open Go Go.Proofs Go.RowKit
set_option linter.all false
section
variable {u v w : World} {x y z : Sl} {l m : List Int}
end
section
variable {u w : World} {v v' o : VwD} {a a1 : Addr} {r t n i e_ at_ f m rr : Int} {k k' : RegK} {x y z ax jx px lx cx : Sl} {I R L : Items} {N B B' : Nat} {ds : List DeclD} {ss : List SigD} {ps : List ProcD} {c : InstrD} {ts : List Int} {F F' : List (Option VwD)} {g : RegK → Int}
end
end Go.Vc
