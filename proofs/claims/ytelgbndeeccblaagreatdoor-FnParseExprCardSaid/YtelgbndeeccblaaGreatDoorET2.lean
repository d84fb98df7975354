/- Part of the proofs about the heaps and memories: a law is joined in the text whose name ends in W and the law. -/
import Derived.Test.YtelgbndeeccblaaGreatDoorET0
import Derived.Lib.AppendStr
import Derived.OwnWalk
import Derived.WalkKit
/- A builder of text that is owned: its block and its row of bytes; appending a string to the row. -/
namespace Go.Vc
open Go Go.RowKit
set_option linter.all false

/-- appending the bytes of a string to an owned row, and where the new row lies -/
theorem run_append_str {P : Program} (w : World) (t u ty e : TypeId) (i : TypeInfo) (ht : P.underlying t = some (.slice e)) (hu : P.underlying u = some .string) (hi : P.info? e = some i) (hz : i.zero = some (.int .u8 0))
  (hsize : i.size = 1) (hby : i.bytes = 1) (v : Value) (n : Nat) (xs : List Value) (hown : w.ownsRow 0 e 1 v n xs) (s : ByteArray) (hbytes : n + s.size ≤ 140737488355328) :
  ∃ v' w', (Builtin.append_ #[t, u] ty #[v, .string s]).run P w = .ok v' w' ∧ w'.ownsRow 0 e 1 v' (n + s.size) (xs ++ Lib.strCells s) ∧ w.grownBy w' v.ownBlock ∧ (v'.ownBlock = v.ownBlock ∨ v'.ownBlock = none ∨ ∃ g, v'.ownBlock = some g ∧ w.heap.size ≤ g) := by
 have h63 : n + s.size ≤ maxLen := by unfold maxLen; omega
 obtain ⟨v', w', hr, h1, h2, h3⟩ := Lib.run_append_own_string (P := P) w 0 t u ty e i ht hu hi hz hsize hby v n xs hown s h63 hbytes (Nat.zero_le _)
 refine ⟨v', w', hr, h1, h2, ?_⟩
 rcases hown.2 with ⟨rfl, rfl⟩ | ⟨g, cap, cur, rfl, hbg, hg, hnc, hcm, hcs, htake⟩
 ·have hxs : xs = [] := List.eq_nil_of_length_eq_zero (by simpa using hown.1)
  subst hxs
  obtain ⟨v2, w2, hr2, k1, k2, k3⟩ := Lib.run_append_own_string (P := P) w w.heap.size t u ty e i ht hu hi hz hsize hby (.slice none 0 0) 0 [] (World.ownsRow_nil w _ e 1) s h63 hbytes (Nat.le_refl _)
  rw [hr] at hr2
  cases hr2
  rcases k1.2 with ⟨rfl, _⟩ | ⟨g, cap, cur, rfl, hbg, _⟩
  ·exact .inl rfl
  ·exact .inr (.inr ⟨g, rfl, hbg⟩)
 ·by_cases hroom : n + s.size ≤ cap
  ·have hcs' : cur.size = cap := by simpa using hcs
   have hr2 := Lib.run_append_room_string (P := P) w t u ty e i ht hu hi hsize g n cap cur hg s hroom (by omega)
   rw [hr] at hr2
   cases hr2
   exact .inl rfl
  ·have holds : ∀ j u, xs[j]? = some u → w.cell? ((⟨g, 0, none⟩ : Addr).add j) = some u := hown.cells (g := g) rfl
   have hxl : xs.length = n := by simpa using hown.1
   have hr2 := Lib.run_append_grow_string (P := P) w t u ty e i (.int .u8 0) ht hu hi hz ⟨g, 0, none⟩ n cap xs (by rw [hsize]; simpa using hxl) holds s (by omega) (by omega) (by rw [hby]; exact growslice_fits (by omega) (by omega))
   rw [hr] at hr2
   cases hr2
   exact .inr (.inr ⟨_, rfl, Nat.le_refl _⟩)
end Go.Vc
namespace Go.Vc
open Go Go.RowKit
section
variable {P : Program} {u w : World} {L R I : Items} {F : Items → Items}
open Classical in
/-- a contract at concrete worlds that turns owned blocks I into I' (some of them new) -/
theorem Trip.res {f : FuncId} {args : Array Value} {K : Value → World → Prop} (hS : St u w L) [p : Pos I L R F] (h1 : ∀ W : World, (callFunc f args).run P W = .ok (.enter f args) W) (Q : Value → Items → Prop)
  (h : ∀ W : World, Sub w W → AtAll W I → Calls P f args W fun e W' => ∃ r I', e = .returned r ∧ Q r I' ∧ AtAll W' I' ∧ (I'.map (·.1)).Nodup ∧ (∀ b ∈ I'.map (·.1), b ∈ I.map (·.1) ∨ W.heap.size ≤ b) ∧
   (∀ k, k < W.heap.size → k ∉ I.map (·.1) → W'.heap[k]? = W.heap[k]?) ∧ W.heap.size ≤ W'.heap.size ∧ W'.os = W.os ∧ W'.tape = W.tape ∧ W'.output = W.output)
  (hK : ∀ r I' w', Q r I' → St u w' (F I') → K r w') : Trip P f args w K := by
 refine ⟨h1, fun W hs => ?_⟩
 have hIw : AtAll w I := hS.items
 refine (h W hs (hIw.sub hs)).mono ?_
 rintro e W' ⟨r, I', rfl, hq, hA, hnd, hfr, hk, hsz, ho1, ho2, ho3⟩
 let q : Nat → Bool := fun b => decide (b ∈ I'.map (·.1) ∨ (¬ Out w b ∧ b ∉ I.map (·.1)))
 have hnO : ∀ b ∈ I.map (·.1), ¬ Out w b := by
  intro b hb hO
  obtain ⟨x, hx, rfl⟩ := List.mem_map.1 hb
  exact (hIw x hx).2 (hO _ (hIw x hx).1)
 have hsub : ∀ (b : Nat) (o : Obj), w.heap[b]? = some o → o ≠ absent → b ∉ I.map (·.1) → (maskW W' q).heap[b]? = some o := by
  intro b o hb hne hnI
  have g1 := hs.at_ b o hb hne
  have g2 : W'.heap[b]? = some o := by rw [hk b (getElem?_lt g1) hnI]; exact g1
  rw [maskW_get, if_pos (getElem?_lt g2), if_pos]
  ·exact g2
  ·exact decide_eq_true (.inr ⟨fun hO => hne (hO _ hb), hnI⟩)
 refine ⟨r, maskW W' q, rfl, ⟨maskW_sub _ _, hsz, ho1, ho2, ho3, fun b hb hO => ?_⟩, hK r I' _ hq (hS.upd hsub ?_ hnd ?_ ?_)⟩
 ·have hnI : b ∉ I.map (·.1) := fun hm => hnO b hm hO
  have hnI' : b ∉ I'.map (·.1) := fun hm => by
   rcases hfr b hm with h | h
   ·exact hnI h
   ·omega
  refine ⟨fun o hm => ?_, hk b hb hnI⟩
  rw [maskW_get] at hm
  have hqf : q b = false := decide_eq_false fun hn => by
   rcases hn with hn | hn
   ·exact hnI' hn
   ·exact hn.1 hO
  rw [hqf] at hm
  split at hm
  ·simpa using hm.symm
  ·cases hm
 ·intro x hx
  obtain ⟨g1, g2⟩ := hA x hx
  refine ⟨?_, g2⟩
  rw [maskW_get, if_pos (getElem?_lt g1), if_pos]
  ·exact g1
  ·exact decide_eq_true (.inl (List.mem_map_of_mem hx))
 ·intro b hb
  rcases hfr b hb with h | h
  ·exact .inl h
  ·refine .inr (out_of_le ?_)
   have := hs.size
   omega
 ·rw [maskW_size]; have := hs.size; omega
end
/-- a row of bytes of one's own -/
def BRow (e : TypeId) (l : List UInt8) (v : Value) (I : Items) : Prop :=
 (v = .slice none 0 0 ∧ l = [] ∧ I = []) ∨
 ∃ g cap cur, v = .slice (some ⟨g, 0, none⟩) l.length cap ∧ I = [(g, .cells cur e (0, 0))] ∧ l.length ≤ cap ∧ cap ≤ maxLen ∧ cur.size = cap ∧ cur.toList.take l.length = l.map fun x => Value.int .u8 x.toNat
/-- a builder in block b (type T) with its row of bytes (type e), as owned blocks -/
def Bld (T e : TypeId) (b : Nat) (l : List UInt8) (I : Items) : Prop :=
 ∃ p v I1, (p = .pointer none ∨ p = .pointer (some ⟨b, 0, none⟩)) ∧ I = (b, .cells #[p, v] T (0, 0)) :: I1 ∧ BRow e l v I1
theorem BRow.owns {e : TypeId} {l : List UInt8} {v : Value} {I : Items} {W : World} (h : BRow e l v I) (hA : AtAll W I) : W.ownsRow 0 e 1 v l.length (l.map fun x => Value.int .u8 x.toNat) := by
 refine ⟨by simp, ?_⟩
 rcases h with ⟨rfl, rfl, rfl⟩ | ⟨g, cap, cur, rfl, rfl, h1, h2, h3, h4⟩
 ·exact .inl ⟨rfl, rfl⟩
 ·exact .inr ⟨g, cap, cur, rfl, Nat.zero_le _, (hA _ (List.mem_singleton.2 rfl)).1, h1, h2, by omega, by simpa using h4⟩
theorem BRow.block {e : TypeId} {l : List UInt8} {v : Value} {I : Items} (h : BRow e l v I) (k : Nat) : k ∈ I.map (·.1) ↔ v.ownBlock = some k := by
 rcases h with ⟨rfl, rfl, rfl⟩ | ⟨g, cap, cur, rfl, rfl, _⟩
 ·simp [Value.ownBlock]
 ·simp [Value.ownBlock]; exact eq_comm
/-- what owns a row is a row of one's own -/
theorem BRow.of {e : TypeId} {l : List UInt8} {v : Value} {W : World} (h : W.ownsRow 0 e 1 v l.length (l.map fun x => Value.int .u8 x.toNat)) : ∃ I, BRow e l v I ∧ AtAll W I := by
 rcases h.2 with ⟨rfl, h0⟩ | ⟨g, cap, cur, rfl, _, h1, h2, h3, h4, h5⟩
 ·exact ⟨[], .inl ⟨rfl, List.eq_nil_of_length_eq_zero h0, rfl⟩, by simp [AtAll]⟩
 ·exact ⟨_, .inr ⟨g, cap, cur, rfl, rfl, h2, h3, by omega, by simpa using h5⟩, by simpa [AtAll] using ⟨h1, by simp [absent]⟩⟩
/-- the operation 'append(row, s...)', for the walk -/
theorem wpList_append_str {P : Program} {ops : Array Oper} {rest : List Oper} {o : Oper} {a : Act} {w : World} {Q : Exit → Act → World → Prop} (hgd : o.guard = none) (sl x : Operand) (t u : TypeId)
  (ho : o.op = .call { callee := .builtin .append, args := #[sl, x], argTypes := #[t, u] })
  (e : TypeId) (i : TypeInfo) (ht : P.underlying t = some (.slice e)) (hu : P.underlying u = some .string) (hi : P.info? e = some i) (hz : i.zero = some (.int .u8 0))
  (hsize : i.size = 1) (hby : i.bytes = 1)
  (v : Value) (n : Nat) (xs : List Value) (hs : a.eval sl = v) (hown : w.ownsRow 0 e 1 v n xs) (s : ByteArray) (hx : a.eval x = .string s) (hbytes : n + s.size ≤ 140737488355328)
  (h : ∀ v' w', w'.ownsRow 0 e 1 v' (n + s.size) (xs ++ Lib.strCells s) → w.grownBy w' v.ownBlock → (v'.ownBlock = v.ownBlock ∨ v'.ownBlock = none ∨ ∃ g, v'.ownBlock = some g ∧ w.heap.size ≤ g) → wpList P ops Q rest (a.put o.dst v') w') : wpList P ops Q (o :: rest) a w := by
 refine wpList_plain hgd fun K hK => ?_
 obtain ⟨v', w', hr, h2, h3, h4⟩ := run_append_str (P := P) w t u o.type e i ht hu hi hz hsize hby v n xs hown s hbytes
 unfold Oper.wp execOp
 simp only [ho, resolve, invoke, builtin, Sem.run_bind, Sem.run_pure, Result.andThen_ok, List.map_toArray, List.map_cons, List.map_nil, hs, hx, hr]
 exact hK _ _ (h v' w' h2 h3 h4)
end Go.Vc
