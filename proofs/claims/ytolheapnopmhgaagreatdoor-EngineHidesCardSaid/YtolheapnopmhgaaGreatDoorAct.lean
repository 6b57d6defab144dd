/- What the evaluator says of operations that act is so: memory. -/
import Derived.Test.YtolheapnopmhgaaGreatDoorHeap
import Derived.Laws.CopyRow
set_option linter.all false
namespace Go.Proofs.YtolheapnopmhgaaGreatDoor
open Go

section
variable {C : Ctx} {ρ : Sym} {Φ : Env} {base : Nat} {h : H} {w : World}

theorem setRow_at (w : World) (g : Nat) (c cs : Array Value) (t : TypeId) (hg : w.heap[g]? = some (.cells c t (0, 0))) : (w.setRow g cs).heap[g]? = some (.cells cs t (0, 0)) ∧ (∀ b, b ≠ g → (w.setRow g cs).heap[b]? = w.heap[b]?) ∧ (w.setRow g cs).heap.size = w.heap.size := by
  have hlt := (Array.getElem?_eq_some_iff.1 hg).1
  have hv : w.heap[g] = .cells c t (0, 0) := (Array.getElem?_eq_some_iff.1 hg).2
  refine ⟨?_, fun b hb => ?_, ?_⟩
  · exact setRow_heap w g c cs t (0, 0) hg
  · unfold World.setRow; simp [Array.getElem?_modify, Ne.symm hb]
  · unfold World.setRow; simp
/-- Another object is laid in a block's place. -/
theorem HR.swap (H1 : HR C.odd ρ Φ base h w) {j : Nat} {L : Loc} {o o' : O} (hj : Φ j = some L) (ho : h.t.get j = some o) (hl : live (some o) = true) {w' : World} (hsz : w'.heap.size = w.heap.size) (hw : ∀ b, b ≠ L.blk → w'.heap[b]? = w.heap[b]?)
    (hobj : ObjR C.odd ρ Φ L base o' w') : HR C.odd ρ Φ base (h.set j o') w' := by
  have hg : ∀ k, (h.set j o').t.get k = if j = k then some o' else h.t.get k := fun k => Tr.get_put _ _ _ _
  refine ⟨by rw [hsz]; exact H1.bs, fun k M hk => ⟨(H1.lt k M hk).1, by rw [hsz]; exact (H1.lt k M hk).2⟩, fun k M o2 hk ho2 => ?_, fun k k' M M' hk hk' hl1 hl2 hb => ?_⟩
  · rw [hg] at ho2
    split at ho2
    · rename_i e; subst e; cases ho2; rw [hj] at hk; cases hk; exact hobj
    · rename_i e
      cases hlv : live (some o2) with
      | false => cases o2 <;> first | trivial | (cases hlv)
      | true =>
        have hne : M.blk ≠ L.blk := fun e2 => e (H1.one j k L M hj hk (by rw [ho]; exact hl) (by rw [ho2]; exact hlv) e2.symm)
        exact (H1.obj k M o2 hk ho2).keep (Ge.refl Φ) (hw _ hne)
  · rw [hg] at hl1 hl2
    refine H1.one k k' M M' hk hk' ?_ ?_ hb
    · split at hl1
      · rename_i e; subst e; rw [ho]; exact hl
      · exact hl1
    · split at hl2
      · rename_i e; subst e; rw [ho]; exact hl
      · exact hl2
/-- Cells are written over. -/
theorem write_run (H1 : HR C.odd ρ Φ base h w) {j : Nat} {L : Loc} {n sz off : Nat} {t t' : Tr V} {vs : List Value} (hj : Φ j = some L) (ho : h.t.get j = some (.cells false n sz t)) (hle : off + vs.length ≤ n)
    (hnew : ∀ i, i < vs.length → ∃ v x, t'.get (off + i) = some v ∧ denC ρ Φ v = some x ∧ vs[i]? = some x) (hold : ∀ i, ¬ (off ≤ i ∧ i < off + vs.length) → i < n → t'.get i = t.get i) :
    ∃ w', (storeCells (L.at_ off) vs).run C.P w = .ok () w' ∧ HR C.odd ρ Φ base (h.set j (.cells false n sz t')) w' ∧ Fr base w w' := by
  obtain ⟨h1, h2, h3, cs, e, fz, h4, hfz, h5, h6⟩ := H1.cells hj ho
  obtain rfl := hfz rfl
  have hcell : ∀ v ∈ vs, v.oneCell' = true := fun v hv => by
    obtain ⟨i, hi⟩ := List.getElem?_of_mem hv
    have hlt : i < vs.length := (List.getElem?_eq_some_iff.1 hi).1
    obtain ⟨u, x, _, h7, h8⟩ := hnew i hlt
    rw [hi] at h8; cases h8
    obtain ⟨k1, k2⟩ := denC_cell h7
    cases v <;> first | rfl | exact absurd rfl (k1 _) | exact absurd rfl (k2 _)
  have hrun := run_storeCells_at (P := C.P) L.blk (L.d + off) e vs 0 cs w h4 (by omega) hcell
  refine ⟨_, hrun, ?_, ?_⟩
  · obtain ⟨r1, r2, r3⟩ := setRow_at w L.blk cs ((cs.toList.take (L.d + off + 0) ++ vs ++ cs.toList.drop (L.d + off + 0 + vs.length)).toArray) e h4
    refine H1.swap hj ho rfl r3 r2 ⟨h1, h2, h3, _, e, (0, 0), r1, fun _ => rfl, ?_, fun i hi => ?_⟩
    · simp; omega
    · by_cases hin : off ≤ i ∧ i < off + vs.length
      · obtain ⟨v, x, k1, k2, k3⟩ := hnew (i - off) (by omega)
        refine ⟨v, x, by rw [← k1]; congr 1; omega, k2, ?_⟩
        rw [← k3]
        simp only [List.getElem?_toArray, Nat.add_zero]
        rw [List.append_assoc, List.getElem?_append_right (by simp; omega), List.getElem?_append_left (by simp; omega)]
        congr 1
        simp; omega
      · obtain ⟨v, x, k1, k2, k3⟩ := h6 i hi
        refine ⟨v, x, by rw [hold i hin hi]; exact k1, k2, ?_⟩
        rw [← k3]
        simp only [List.getElem?_toArray, Nat.add_zero]
        by_cases hlt : i < off
        · rw [List.append_assoc, List.getElem?_append_left (by simp; omega), List.getElem?_take, if_pos (by omega)]; simp
        · rw [List.getElem?_append_right (by simp; omega), List.getElem?_drop]
          rw [← Array.getElem?_toList]
          congr 1
          simp; omega
  · obtain ⟨r1, r2, r3⟩ := setRow_at w L.blk cs ((cs.toList.take (L.d + off + 0) ++ vs ++ cs.toList.drop (L.d + off + 0 + vs.length)).toArray) e h4
    exact ⟨by rw [r3]; omega, fun b hb => r2 b (by have := h3 rfl; omega), frz_swap r2 h4 r1 (soft_cells _ _) (soft_cells _ _), rfl, rfl⟩
theorem store_run (H1 : HR C.odd ρ Φ base h w) {t : TypeId} {j off : Nat} {L : Loc} {z : V} {x : Value} {h' : H} (hj : Φ j = some L) (hz : denA ρ Φ z = some x) (hv : storeV C h t j off z = some h') :
    ∃ w', (Instr.storeAt t (.pointer (some (L.at_ off))) x).run C.P w = .ok () w' ∧ HR C.odd ρ Φ base h' w' ∧ Fr base w w' := by
  unfold storeV at hv
  replace hv := ob_some hv
  obtain ⟨n, hn, hv⟩ := hv
  replace hv := guardO_some hv
  obtain ⟨hs, hv⟩ := hv
  replace hv := ob_some hv
  obtain ⟨o, ho, hv⟩ := hv
  have hs : z.size = n := Nat.eq_of_beq_eq_true hs
  obtain ⟨hc1, hc2⟩ := cells_den hz
  unfold writeO at hv
  split at hv
  · rename_i ro m sz c
    replace hv := guardO_some hv
    obtain ⟨hg, hv⟩ := hv
    simp only [Bool.and_eq_true, Bool.not_eq_true'] at hg
    obtain ⟨hro, hle⟩ := hg
    subst hro
    have hle : off + z.size ≤ m := Nat.le_of_ble_eq_true hle
    have hlen : x.cells.toList.length = z.size := by simp [hc1]
    have hcells : ∀ i, i < z.size → ∃ u y, z.nth i = some u ∧ denC ρ Φ u = some y ∧ x.cells.toList[i]? = some y := fun i hi => by
      obtain ⟨u, y, k1, k2, k3⟩ := hc2 i hi
      exact ⟨u, y, k1, k2, by simpa using k3⟩
    have main : ∃ c', h' = h.set j (.cells false m sz c') ∧ (∀ i, i < z.size → c'.get (off + i) = z.nth i) ∧ ∀ i, ¬ (off ≤ i ∧ i < off + z.size) → i < m → c'.get i = c.get i := by
      rw [boolRec_eq] at hv
      split at hv
      · rename_i hb
        simp only [Bool.and_eq_true] at hb
        have h0 : off = 0 := Nat.eq_of_beq_eq_true hb.1
        have hm : z.size = m := Nat.eq_of_beq_eq_true hb.2
        replace hv := om_some hv
        obtain ⟨c', hc', rfl⟩ := hv
        refine ⟨c', rfl, fun i hi => by rw [h0, Nat.zero_add]; exact own_some hc' i hi, fun i hi hlt => by omega⟩
      · replace hv := om_some hv
        obtain ⟨c', hc', rfl⟩ := hv
        refine ⟨c', rfl, fun i hi => ?_, fun i hi _ => (into_some hc' i).2 hi⟩
        rw [(into_some hc' (off + i)).1 ⟨by omega, by omega⟩]
        congr 1; omega
    obtain ⟨c', rfl, hnew, hold⟩ := main
    obtain ⟨w', k1, k2, k3⟩ := write_run H1 hj ho (vs := x.cells.toList) (t' := c') (by rw [hlen]; exact hle) (fun i hi => by
      rw [hlen] at hi
      obtain ⟨u, y, a1, a2, a3⟩ := hcells i hi
      exact ⟨u, y, by rw [hnew i hi]; exact a1, a2, a3⟩) (by rw [hlen]; exact hold)
    refine ⟨w', ?_, k2, k3⟩
    simp only [Instr.storeAt, Instr.sureAddr, storeVar, Sem.run_bind, Sem.run_pure, Result.andThen, sizeT_run hn]
    rw [if_neg (by rw [hc1, hs]; simp)]
    exact k1
  · cases hv
theorem copyO_run (H1 : HR C.odd ρ Φ base h w) {j off k so : Nat} {L : Loc} {s : Tr V} {vs : List Value} {o : O} {h' : H} (hj : Φ j = some L) (ho : h.t.get j = some o) (hs : denRow ρ Φ s so k = some vs) (hv : copyO h j off k s so o = some h') :
    ∃ w', (storeCells (L.at_ off) vs).run C.P w = .ok () w' ∧ HR C.odd ρ Φ base h' w' ∧ Fr base w w' := by
  unfold copyO at hv
  split at hv
  · rename_i ro m sz c
    replace hv := guardO_some hv
    obtain ⟨hg, hv⟩ := hv
    simp only [Bool.and_eq_true, Bool.not_eq_true'] at hg
    obtain ⟨hro, hle⟩ := hg
    subst hro
    have hle : off + k ≤ m := Nat.le_of_ble_eq_true hle
    replace hv := om_some hv
    obtain ⟨c', hc', rfl⟩ := hv
    obtain ⟨h1, h2⟩ := denRow_some hs
    refine write_run H1 hj ho (vs := vs) (t' := c') (by omega) (fun i hi => ?_) (fun i hi _ => (Tr.cpy_some _ _ _ _ _ hc' i).2 (by omega))
    obtain ⟨v, x, k1, k2, k3⟩ := h2 i (by omega)
    refine ⟨v, x, ?_, k2, k3⟩
    rw [((Tr.cpy_some _ _ _ _ _ hc' (off + i)).1 ⟨by omega, by omega⟩).1, ← k1]
    congr 1; omega
  · cases hv
theorem cells_run {ro : Bool} {n sz : Nat} {c : Tr V} {L : Loc} (hc : CellsR ρ Φ L base ro n sz c w) {off k : Nat} (hle : off + k ≤ n) : ∃ vs, denRow ρ Φ c off k = some vs ∧ (loadCells (L.at_ off) k).run C.P w = .ok vs.toArray w := by
  obtain ⟨_, hn, _, cs, e, fz, hblk, _, hsz, hcell⟩ := hc
  refine ⟨(List.range k).map fun i => (cs[L.d + (off + i)]?).getD undef, denRow_of _ _ _ fun i hi => ?_, ?_⟩
  · obtain ⟨u, x, h1, h2, h3⟩ := hcell (off + i) (by omega)
    exact ⟨u, h1, by rw [h3]; exact h2⟩
  · exact run_loadCells (P := C.P) (w := w) (L.at_ off) k (fun i => (cs[L.d + (off + i)]?).getD undef) (fun i hi => by
      obtain ⟨u, x, h1, h2, h3⟩ := hcell (off + i) (by omega)
      rw [at_add, cell_of hblk, h3]; rfl)
theorem first_run (H1 : HR C.odd ρ Φ base h w) {size k : Nat} {x : V} {x' : Value} {q : Tr V × Nat} (hq : firstV h (k * size) x = some q) (hx : denA ρ Φ x = some x') (hl : ∃ a len cap, x' = .slice a len cap) :
    ∃ vs, denRow ρ Φ q.1 q.2 (k * size) = some vs ∧ (Builtin.firstCells size k x').run C.P w = .ok vs.toArray w := by
  unfold firstV at hq
  split at hq
  · replace hq := guardO_some hq
    obtain ⟨h0, hq⟩ := hq
    cases hq; cases hx
    rw [Nat.eq_of_beq_eq_true h0]
    exact ⟨[], rfl, rfl⟩
  · rename_i j off l
    replace hq := guardO_some hq
    obtain ⟨h0, hq⟩ := hq
    cases hq
    have h0 := Nat.eq_of_beq_eq_true h0
    simp only [denA, denC, den0] at hx
    obtain ⟨L, _, rfl⟩ := Option.map_eq_some_iff.1 hx
    rw [h0]
    refine ⟨[], rfl, ?_⟩
    split <;> simp only [Builtin.firstCells, h0] <;> rfl
  · rename_i j off len c
    replace hq := ob_some hq
    obtain ⟨o, ho, hq⟩ := hq
    unfold firstO at hq
    split at hq
    · replace hq := guardO_some hq
      obtain ⟨hle, hq⟩ := hq
      cases hq
      have : ∃ L n cap, Φ j = some L ∧ x' = .slice (some (L.at_ off)) n cap := by
        simp only [denA, denC] at hx
        cases c <;> simp only [den0] at hx <;> obtain ⟨L, hL, rfl⟩ := Option.map_eq_some_iff.1 hx <;> exact ⟨L, _, _, hL, rfl⟩
      obtain ⟨L, n, cap, hL, rfl⟩ := this
      exact cells_run (H1.cells hL ho) (Nat.le_of_ble_eq_true hle)
    · cases hq
  · cases hq

/-- Further on: blocks that were not told of may be, but none of the old ones. -/
structure Fw (Φ : Env) (n : Nat) (Φ' : Env) (n' : Nat) : Prop where
  ge : Ge Φ Φ'
  le : n ≤ n'
  old : ∀ j, j < n → Φ' j = Φ j
theorem Fw.refl (Φ : Env) (n : Nat) : Fw Φ n Φ n := ⟨Ge.refl Φ, Nat.le_refl n, fun _ _ => rfl⟩
theorem Fw.up {n n' : Nat} (h : n ≤ n') : Fw Φ n Φ n' := ⟨Ge.refl Φ, h, fun _ _ => rfl⟩
theorem Fw.same {n n' : Nat} (h : n' = n) : Fw Φ n Φ n' := .up (Nat.le_of_eq h.symm)
theorem Fw.trans {Φ' Φ'' : Env} {n n' n'' : Nat} (h : Fw Φ n Φ' n') (h' : Fw Φ' n' Φ'' n'') : Fw Φ n Φ'' n'' :=
  ⟨h.ge.trans h'.ge, Nat.le_trans h.le h'.le, fun j hj => (h'.old j (Nat.lt_of_lt_of_le hj h.le)).trans (h.old j hj)⟩
theorem Fw.upd {n : Nat} (hn : Φ n = none) (L : Loc) : Fw Φ n (upd Φ n L) (n + 1) :=
  ⟨upd_ge hn L, Nat.le_succ n, fun j hj => by unfold Go.Proofs.YtolheapnopmhgaaGreatDoor.upd; rw [if_neg (by omega)]⟩
theorem copyO_n {j off k so : Nat} {s : Tr V} {o : O} {h' : H} (hv : copyO h j off k s so o = some h') : h'.n = h.n := by
  unfold copyO at hv
  split at hv
  · replace hv := guardO_some hv
    obtain ⟨_, hv⟩ := hv
    replace hv := om_some hv
    obtain ⟨c', _, rfl⟩ := hv
    rfl
  · cases hv
theorem storeV_n {t : TypeId} {j off : Nat} {z : V} {h' : H} (hv : storeV C h t j off z = some h') : h'.n = h.n := by
  unfold storeV at hv
  replace hv := ob_some hv
  obtain ⟨n, _, hv⟩ := hv
  replace hv := guardO_some hv
  obtain ⟨_, hv⟩ := hv
  replace hv := ob_some hv
  obtain ⟨o, _, hv⟩ := hv
  unfold writeO at hv
  split at hv
  · replace hv := guardO_some hv
    obtain ⟨_, hv⟩ := hv
    rw [boolRec_eq] at hv
    split at hv
    · replace hv := om_some hv
      obtain ⟨c', _, rfl⟩ := hv
      rfl
    · replace hv := om_some hv
      obtain ⟨c', _, rfl⟩ := hv
      rfl
  · cases hv
end
end Go.Proofs.YtolheapnopmhgaaGreatDoor
