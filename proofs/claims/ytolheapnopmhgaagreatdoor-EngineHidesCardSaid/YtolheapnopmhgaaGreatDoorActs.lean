/- What the evaluator says of operations that act is so: all of them, but calls and steps of iterators. -/
import Derived.Test.YtolheapnopmhgaaGreatDoorMaps
set_option linter.all false
namespace Go.Proofs.YtolheapnopmhgaaGreatDoor
open Go

theorem Two.len {α β : Type} {R : α → β → Prop} {l : List α} {r : List β} (h : Two R l r) : l.length = r.length := by
  induction h with
  | nil => rfl
  | cons _ _ ih => simp [ih]
theorem Two.findIdx {α β : Type} {R : α → β → Prop} {l : List α} {r : List β} (h : Two R l r) {p : α → Bool} {q : β → Bool} (hpq : ∀ x y, R x y → p x = q y) : l.findIdx? p = r.findIdx? q := by
  induction h with
  | nil => rfl
  | @cons x y l r h1 _ ih =>
    rw [List.findIdx?_cons, List.findIdx?_cons, hpq x y h1, ih]
theorem Two.find {α β : Type} {R : α → β → Prop} {l : List α} {r : List β} (h : Two R l r) {p : α → Bool} {q : β → Bool} (hpq : ∀ x y, R x y → p x = q y) :
    (l.find? p = none ∧ r.find? q = none) ∨ ∃ x y, l.find? p = some x ∧ r.find? q = some y ∧ R x y := by
  induction h with
  | nil => exact .inl ⟨rfl, rfl⟩
  | @cons x y l r h1 _ ih =>
    rw [List.find?_cons, List.find?_cons, hpq x y h1]
    cases hq : q y with
    | true => exact .inr ⟨x, y, rfl, rfl, h1⟩
    | false => exact ih
theorem Two.get {α β : Type} {R : α → β → Prop} {l : List α} {r : List β} (h : Two R l r) : ∀ {i : Nat} {x : α}, l[i]? = some x → ∃ y, r[i]? = some y ∧ R x y := fun {i x} hi => two_get h i x hi

section
variable {C : Ctx} {ρ : Sym} {Φ : Env} {base : Nat} {h : H} {w : World}

theorem entryStore_run (H1 : HR C.odd ρ Φ base h w) {t : TypeId} {n : Nat} {m s y v : V} {m' s' y' : Value} {h' : H} (hn : natOf s = some n) (hv : aEntryStore h n y m = some (v, h')) (hm : denA ρ Φ m = some m') (hs : denA ρ Φ s = some s') (hy : denA ρ Φ y = some y') :
    v = .tup [] ∧ ActU C ρ Φ base h.n h' w (Instr.entryStore t m' s' y') := by
  unfold aEntryStore at hv
  split at hv
  · rename_i j
    replace hv := ob_some hv
    obtain ⟨es, hes, hv⟩ := hv
    replace hv := ob_some hv
    obtain ⟨i, hi, hv⟩ := hv
    replace hv := om_some hv
    obtain ⟨e, he, hv⟩ := hv
    cases hv
    refine ⟨rfl, ?_⟩
    obtain ⟨L, es', hL, rfl, ho, hbase, hb, h2⟩ := mapAt H1 hes hm
    obtain ⟨k, rfl⟩ := natOf_den hn hs
    rw [nthL_eq] at he
    have hi' : es'.findIdx? (fun e => (e.born : Int) == (n : Int)) = some i := by
      rw [show es' = es'.toList.toArray from rfl, List.findIdx?_toArray, ← h2.findIdx (p := fun e => Nat.beq e.2.2 n) (fun x y hxy => by
        rw [hxy.2.2]
        rw [Bool.eq_iff_iff]
        simp [Nat.beq_eq]
        omega)]
      exact hi
    obtain ⟨kn, w', k1, k2, k3⟩ := setObj_run (o' := .map (setAt es.1 i (e.1, y, e.2.2)) es.2) (obj := .map (es'.modify i fun e => { e with val := y' }) es.2) H1 hL ho rfl hb (fun _ _ _ e => by cases e) hbase
      (fun w' hw => ⟨hbase, _, hw, by
        rw [Array.toList_modify]
        refine h2.set_ _ _ _ fun z hz => ?_
        obtain ⟨z', hz', hr⟩ := h2.get he
        rw [hz'] at hz; cases hz
        exact ⟨hr.1, hy, hr.2.2⟩⟩)
    refine ⟨kn, w', k1, k2, ?_⟩
    simp only [Instr.entryStore, Sem.run_bind, getObj_map hb, Result.andThen, asInt, asIntOf, Sem.run_pure, hi']
    exact k3
  · cases hv
theorem delete_run (H1 : HR C.odd ρ Φ base h w) {ts : Array TypeId} {ty t : TypeId} (ht : ts[0]? = some t) {m k v : V} {m' k' : Value} {h' : H} (hv : aDelete C h t k m = some (v, h')) (hm : denA ρ Φ m = some m') (hk : denA ρ Φ k = some k') :
    ActR C ρ Φ base h.n h' v w (Builtin.delete_ ts ty #[m', k']) := by
  unfold aDelete at hv
  replace hv := ob_some hv
  obtain ⟨q, hq, hv⟩ := hv
  replace hv := guardO_some hv
  obtain ⟨hkb, hv⟩ := hv
  have hu := mapT_some hq
  have hck := fun em => keyB_run hkb hk em w
  unfold delM at hv
  split at hv
  · cases hv; cases hm
    refine ⟨_, w, Φ, Fw.refl Φ _, H1, Fr.refl base w, rfl, ?_⟩
    simp [Builtin.delete_, ht, under_run hu, hck, Result.andThen]
  · rename_i j
    replace hv := ob_some hv
    obtain ⟨es, hes, hv⟩ := hv
    replace hv := om_some hv
    obtain ⟨r, hr, hv⟩ := hv
    obtain ⟨L, es', hL, rfl, ho, hbase, hb, h2⟩ := mapAt H1 hes hm
    obtain ⟨r', h3, h4⟩ := findKey_run hk hkb h2 hr w
    cases r with
    | none =>
      cases h3
      cases hv
      have hlt := (Array.getElem?_eq_some_iff.1 hb).1
      have hset : ∀ b : Nat, ({ w with heap := w.heap.setIfInBounds L.blk (.map es' es.2) } : World).heap[b]? = w.heap[b]? := fun b => by
        simp only [Array.getElem?_setIfInBounds]
        split
        · rename_i e; subst e; rw [hb]
        · rfl
      refine ⟨_, { w with heap := w.heap.setIfInBounds L.blk (.map es' es.2) }, Φ, Fw.refl Φ _, H1.grown (by simp) (fun b _ => hset b), ⟨by simp, fun b _ => hset b, (fun a => by unfold World.frozen?; rw [hset]), rfl, rfl⟩, rfl, ?_⟩
      have hso : (setObj L.blk (.map es' es.2)).run C.P w = .ok () { w with heap := w.heap.setIfInBounds L.blk (.map es' es.2) } := by simp only [setObj, Sem.run, hb]
      simp [Builtin.delete_, ht, under_run hu, hck, Result.andThen, getObj_map hb, h4, hso]
    | some e =>
      obtain ⟨e', rfl, _, h5, h6⟩ := h3
      cases hv
      obtain ⟨kn, w', k1, k2, k3⟩ := setObj_run (o' := .map (dropAt es.1 e.1) es.2) (obj := .map (es'.eraseIdxIfInBounds e.1) es.2) H1 hL ho rfl hb (fun _ _ _ e => by cases e) hbase
        (fun w' hw => ⟨hbase, _, hw, by
          have : (es'.eraseIdxIfInBounds e.1).toList = es'.toList.eraseIdx e.1 := by simp
          rw [this]; exact h2.drop_ _⟩)
      refine ⟨_, w', Φ, Fw.refl Φ _, k1, k2, rfl, ?_⟩
      simp [Builtin.delete_, ht, under_run hu, hck, Result.andThen, getObj_map hb, h4, k3]
  · cases hv
theorem range_run (H1 : HR C.odd ρ Φ base h w) {t : TypeId} {x v : V} {x' : Value} {h' : H} (hv : aRange C h t x = some (v, h')) (hx : denA ρ Φ x = some x') :
    ActR C ρ Φ base h.n h' v w (Instr.range t x') := by
  unfold aRange at hv
  replace hv := ob_some hv
  obtain ⟨q, hq, hv⟩ := hv
  have hu := mapT_some hq
  have hn : Φ h.n = none := by
    cases hc : Φ h.n with
    | none => rfl
    | some L => have := (H1.lt _ _ hc).1; omega
  have hge := upd_ge (Φ := Φ) hn ⟨w.heap.size, 0, 0, 0⟩
  have done : ∀ (m : Option Nat) (m' : Option Nat) (c : Nat), (match m with
      | none => m' = none
      | some j => ∃ M, Φ j = some M ∧ m' = some M.blk) → ActR C ρ Φ base h.n (h.new (.iter m c [] c)) (.p h.n 0) w (do pure (.pointer (some ⟨← newObj (.mapIter m' c #[] c), 0, none⟩))) := fun m m' c hm => by
    refine ⟨.pointer (some ⟨w.heap.size, 0, none⟩), w.alloc (.mapIter m' c #[] c), upd Φ h.n ⟨w.heap.size, 0, 0, 0⟩, Fw.upd hn _, ?_, Fr.alloc H1.bs _, ?_, ?_⟩
    · refine (H1.later (.iter m c [] c)).tell hn (Nat.lt_succ_self _) (Tr.get_put_same _ _ _) rfl ?_
      refine ⟨H1.bs, rfl, m', alloc_at w _, ?_⟩
      cases m with
      | none => exact hm
      | some j => obtain ⟨M, h1, h2⟩ := hm; exact ⟨M, hge _ _ h1, h2⟩
    · show Option.map _ (upd Φ h.n ⟨w.heap.size, 0, 0, 0⟩ h.n) = _
      rw [upd_same]
      rfl
    · rfl
  unfold rangeM at hv
  split at hv
  · cases hv; cases hx
    obtain ⟨r, w', Φ', k1, k2, k3, k4, k5⟩ := done none none 0 rfl
    refine ⟨r, w', Φ', k1, k2, k3, k4, ?_⟩
    simp only [Instr.range, Sem.run_bind, under_run hu, Result.andThen]
    exact k5
  · rename_i j
    replace hv := om_some hv
    obtain ⟨es, hes, hv⟩ := hv
    cases hv
    obtain ⟨L, es', hL, rfl, ho, hbase, hb, h2⟩ := mapAt H1 hes hx
    obtain ⟨r, w', Φ', k1, k2, k3, k4, k5⟩ := done (some j) (some L.blk) es.2 ⟨L, hL, rfl⟩
    refine ⟨r, w', Φ', k1, k2, k3, k4, ?_⟩
    simp only [Instr.range, Sem.run_bind, under_run hu, Result.andThen, getObj_map hb]
    exact k5
  · cases hv
theorem entry_run (H1 : HR C.odd ρ Φ base h w) {x v : V} {x' : Value} {h' : H} (hv : aEntry h x = some (v, h')) (hx : denA ρ Φ x = some x') :
    ActR C ρ Φ base h.n h' v w (Instr.entry x') := by
  unfold aEntry at hv
  split at hv
  · rename_i r
    replace hv := om_some hv
    obtain ⟨u, hu, hv⟩ := hv
    cases hv
    replace hu := ob_some hu
    obtain ⟨o, ho, hu⟩ := hu
    unfold entO at hu
    split at hu
    · rename_i j since seen stepped
      replace hu := ob_some hu
      obtain ⟨es, hes, hu⟩ := hu
      replace hu := guardO_some hu
      obtain ⟨hst, hu⟩ := hu
      replace hu := ob_some hu
      obtain ⟨b, hb, hu⟩ := hu
      replace hu := om_some hu
      obtain ⟨e, he, hu⟩ := hu
      cases hu
      simp only [denA, denC, den0] at hx
      obtain ⟨L, hL, rfl⟩ := Option.map_eq_some_iff.1 hx
      obtain ⟨hbase, hd0, m', hit, M, hM, rfl⟩ := H1.obj r L _ hL ho
      obtain ⟨M2, es', hM2, e2, ho2, _, hb2, h2⟩ := mapAt H1 hes (m' := .map (some M.blk)) (by simp only [denA, denC, den0, hM, Option.map_some])
      have hst := Nat.eq_of_beq_eq_true hst
      have hM3 : M2 = M := by rw [hM] at hM2; cases hM2; rfl
      subst hM3
      rcases h2.find (p := fun e => Nat.beq e.2.2 b) (q := fun e => e.born == b) (fun x y hxy => by rw [hxy.2.2]; rw [Bool.eq_iff_iff]; simp) with ⟨h3, _⟩ | ⟨x, y, h3, h4, h5⟩
      · rw [h3] at he; cases he
      · rw [h3] at he; cases he
        have h4' : es'.find? (fun e => e.born == b) = some y := by rw [← Array.find?_toList]; exact h4
        refine ⟨.tuple #[y.key, y.val], w, Φ, Fw.refl Φ _, H1, Fr.refl base w, ?_, ?_⟩
        · have h6 : mapO' (denA ρ Φ) [e.1, e.2.1] = some [y.key, y.val] := by
            show ((denA ρ Φ e.1).bind fun y => (mapO' (denA ρ Φ) [e.2.1]).map fun r => y :: r) = _
            rw [h5.1]
            show Option.map _ ((denA ρ Φ e.2.1).bind fun y => some [y]) = _
            rw [h5.2.1]; rfl
          show Option.map _ (mapO' (denA ρ Φ) [e.1, e.2.1]) = _
          rw [h6]; rfl
        · have hgi : (getObj L.blk).run C.P w = .ok (.mapIter (some M2.blk) since seen.toArray stepped) w := by simp [getObj, Sem.run, hit]
          have hsb : seen.toArray.back? = some b := by simpa using hb
          have hz : (L.at_ 0) = ⟨L.blk, 0, none⟩ := by unfold Loc.at_; rw [hd0]
          rw [hz]
          simp [Instr.entry, hgi, Result.andThen, hsb, getObj_map hb2, hst, h4']
    · cases hu
  · cases hv

theorem goInt_den (n : Nat) (Φ : Env) : den ρ Φ (.i .i64 (.ofNat n)) = some (goInt n) := rfl
theorem copy_run (H1 : HR C.odd ρ Φ base h w) {ts : Array TypeId} {ty t : TypeId} (ht : ts[0]? = some t) {d s v : V} {d' s' : Value} {h' : H} (hv : aCopy C h t d s = some (v, h')) (hd : denA ρ Φ d = some d') (hs : denA ρ Φ s = some s') :
    ActR C ρ Φ base h.n h' v w (Builtin.copy_ ts ty #[d', s']) := by
  unfold aCopy at hv
  replace hv := ob_some hv
  obtain ⟨e, he, hv⟩ := hv
  replace hv := ob_some hv
  obtain ⟨sz, hsz, hv⟩ := hv
  replace hv := ob_some hv
  obtain ⟨n, hn, hv⟩ := hv
  replace hv := ob_some hv
  obtain ⟨m, hm, hv⟩ := hv
  replace hv := ob_some hv
  obtain ⟨q, hq, hv⟩ := hv
  have hu := elemT_some he
  obtain ⟨da, dc, rfl⟩ := lenOf_den hn hd
  obtain ⟨sa, sc, rfl⟩ := lenOf_den hm hs
  obtain ⟨vs, hvs, hnew⟩ := first_run (C := C) H1 (size := sz) (k := Nat.min m n) hq hs ⟨_, _, _, rfl⟩
  unfold copyD at hv
  split at hv
  · rename_i j off len c
    replace hv := om_some hv
    obtain ⟨h2, hcp, hv⟩ := hv
    cases hv
    replace hcp := ob_some hcp
    obtain ⟨o, ho, hcp⟩ := hcp
    have : ∃ L, Φ j = some L ∧ da = some (L.at_ off) := by
      simp only [denA, denC] at hd
      cases c <;> simp only [den0] at hd <;> obtain ⟨L, hL, hd⟩ := Option.map_eq_some_iff.1 hd <;> cases hd <;> exact ⟨L, hL, rfl⟩
    obtain ⟨L, hL, rfl⟩ := this
    obtain ⟨w', k1, k2, k3⟩ := copyO_run H1 hL ho hvs hcp
    refine ⟨_, w', Φ, Fw.same (copyO_n hcp), k2, k3, goInt_den _ Φ, ?_⟩
    simp [Builtin.copy_, ht, under_run hu, Result.andThen, Builtin.lenOf, sizeT_run hsz, hnew, k1]
  · rename_i hno
    cases hv
    have h0 : Nat.min m n = 0 := by
      have : n = 0 := by cases d <;> simp only [lenOfV] at hn <;> first | (cases hn; rfl) | (exact absurd rfl (hno _ _ _ _)) | (cases hn)
      subst this; exact Nat.min_zero m
    rw [h0] at hvs hnew ⊢
    have hnil : vs = [] := by rw [Nat.zero_mul] at hvs; cases hvs; rfl
    subst hnil
    refine ⟨_, w, Φ, Fw.refl Φ _, H1, Fr.refl base w, goInt_den _ Φ, ?_⟩
    cases da <;> simp [Builtin.copy_, ht, under_run hu, Result.andThen, Builtin.lenOf, sizeT_run hsz, h0, hnew, storeCells]
theorem clear_run (H1 : HR C.odd ρ Φ base h w) {ts : Array TypeId} {ty t : TypeId} {u : TypeDesc} (ht : ts[0]? = some t) (hu : C.P.underlying t = some u) {x v : V} {x' : Value} {h' : H} (hv : aClear C h t x = some (v, h')) (hx : denA ρ Φ x = some x') :
    ActR C ρ Φ base h.n h' v w (Builtin.clear_ ts ty #[x']) := by
  unfold aClear at hv
  split at hv
  · cases hv; cases hx
    refine ⟨_, w, Φ, Fw.refl Φ _, H1, Fr.refl base w, rfl, ?_⟩
    simp [Builtin.clear_, ht, under_run hu, Result.andThen]
  · cases hv; cases hx
    refine ⟨_, w, Φ, Fw.refl Φ _, H1, Fr.refl base w, rfl, ?_⟩
    simp [Builtin.clear_, ht, under_run hu, Result.andThen]
  · cases hv
    simp only [denA, denC, den0] at hx
    obtain ⟨L, hL, rfl⟩ := Option.map_eq_some_iff.1 hx
    refine ⟨_, w, Φ, Fw.refl Φ _, H1, Fr.refl base w, rfl, ?_⟩
    split <;> simp [Builtin.clear_, ht, under_run hu, Result.andThen]
  · rename_i j
    replace hv := om_some hv
    obtain ⟨es, hes, hv⟩ := hv
    cases hv
    obtain ⟨L, es', hL, rfl, ho, hbase, hb, h2⟩ := mapAt H1 hes hx
    obtain ⟨kn, w', k1, k2, k3⟩ := setObj_run (o' := .map [] es.2) (obj := .map #[] es.2) H1 hL ho rfl hb (fun _ _ _ e => by cases e) hbase (fun w' hw => ⟨hbase, _, hw, .nil⟩)
    refine ⟨_, w', Φ, Fw.refl Φ _, k1, k2, rfl, ?_⟩
    simp [Builtin.clear_, ht, under_run hu, Result.andThen, getObj_map hb, k3]
  · rename_i j off n c
    replace hv := ob_some hv
    obtain ⟨e, he, hv⟩ := hv
    replace hv := ob_some hv
    obtain ⟨z, hz, hv⟩ := hv
    replace hv := ob_some hv
    obtain ⟨sz, hsz, hv⟩ := hv
    unfold clearZ at hv
    replace hv := guardO_some hv
    obtain ⟨hzs, hv⟩ := hv
    have hzs := Nat.eq_of_beq_eq_true hzs
    replace hv := ob_some hv
    obtain ⟨T, hT, hv⟩ := hv
    replace hv := om_some hv
    obtain ⟨h2, hcp, hv⟩ := hv
    cases hv
    replace hcp := ob_some hcp
    obtain ⟨o, ho, hcp⟩ := hcp
    have hu' := elemT_some he
    have : ∃ L c, Φ j = some L ∧ x' = .slice (some (L.at_ off)) n c := by
      simp only [denA, denC] at hx
      cases c <;> simp only [den0] at hx <;> obtain ⟨L, hL, hx⟩ := Option.map_eq_some_iff.1 hx <;> cases hx <;> exact ⟨L, _, hL, rfl⟩
    obtain ⟨L, c', hL, rfl⟩ := this
    obtain ⟨zx, hzrun, hzd⟩ := zeroT_run (ρ := ρ) hz w
    obtain ⟨p1, p2⟩ := times_part (n := n) (hzd Φ) hzs hT
    have hvs := part_denRow p1 p2
    obtain ⟨w', k1, k2, k3⟩ := copyO_run H1 hL ho hvs hcp
    refine ⟨_, w', Φ, Fw.same (copyO_n hcp), k2, k3, rfl, ?_⟩
    cases n with
    | zero =>
      have hw : w' = w := by
        rw [Nat.zero_mul] at k1
        simp [storeCells] at k1
        exact k1.symm
      subst hw
      simp [Builtin.clear_, ht, under_run hu', Result.andThen]
    | succ n =>
      have hzc : zx.cells.size = sz := by rw [(cells_den (hzd Φ)).1, hzs]
      have k1' : (storeCells (L.at_ off) (Builtin.zeroCells zx.cells (n + 1)).toList).run C.P w = .ok () w' := by
        unfold Builtin.zeroCells
        rw [hzc]
        rw [hzc] at k1
        exact k1
      simp [Builtin.clear_, ht, under_run hu', Result.andThen, hzrun, k1']
  · cases hv
/-- WHAT THE EVALUATOR SAYS OF AN OPERATION THAT ACTS IS SO. -/
theorem actV_run (H1 : HR C.odd ρ Φ base h w) (hg : GR C Φ) {pend : Nat → Prop} {A : A} {a : Act} (ha : AR ρ Φ pend A a) {o : Oper} {v : V} {h' : H} (hf : ∀ x ∈ o.op.operands.toList, free pend x) (hv : actV C A h o = some (v, h')) :
    ∃ x w' Φ', Fw Φ h.n Φ' h'.n ∧ HR C.odd ρ Φ' base h' w' ∧ Fr base w w' ∧ den ρ Φ' v = some x ∧ ((execOp a.eval o).run C.P w = .ok (.value x) w' ∨ ((execOp a.eval o).run C.P w = .ok .skip w' ∧ x = undef)) := by
  have fin : ∀ {s : Sem Value}, ActR C ρ Φ base h.n h' v w s → ∃ x w' Φ', Fw Φ h.n Φ' h'.n ∧ HR C.odd ρ Φ' base h' w' ∧ Fr base w w' ∧ den ρ Φ' v = some x ∧ ((do pure (Next.value (← s)) : Sem Next).run C.P w = .ok (.value x) w' ∨ ((do pure (Next.value (← s)) : Sem Next).run C.P w = .ok .skip w' ∧ x = undef)) :=
    fun ⟨x, w', Φ', h1, h2, h3, h4, h5⟩ => ⟨x, w', Φ', h1, h2, h3, h4, .inl (by rw [Sem.run_bind, h5]; rfl)⟩
  have finU : ∀ {s : Sem Unit}, v = .tup [] ∧ ActU C ρ Φ base h.n h' w s → ∃ x w' Φ', Fw Φ h.n Φ' h'.n ∧ HR C.odd ρ Φ' base h' w' ∧ Fr base w w' ∧ den ρ Φ' v = some x ∧ ((do s; pure Next.skip : Sem Next).run C.P w = .ok (.value x) w' ∨ ((do s; pure Next.skip : Sem Next).run C.P w = .ok .skip w' ∧ x = undef)) :=
    fun ⟨e, hn, w', h2, h3, h5⟩ => ⟨undef, w', Φ, Fw.up hn, h2, h3, by subst e; rfl, .inr ⟨by rw [Sem.run_bind, h5]; rfl, rfl⟩⟩
  obtain ⟨dst, op, type, pos, after, guard⟩ := o
  unfold actV at hv
  simp only at hv hf
  cases op <;> simp only [actO] at hv <;> first | (cases hv; done) | skip
  case assign x =>
    replace hv := om_some hv
    obtain ⟨u, hu, hv⟩ := hv
    cases hv
    exact ⟨_, w, Φ, Fw.refl Φ _, H1, Fr.refl base w, ev_den hg ha (hf x (by simp [Op.operands])) hu, .inl rfl⟩
  case store t x y =>
    replace hv := ob_some hv
    obtain ⟨z, hz, hv⟩ := hv
    replace hv := ob_some hv
    obtain ⟨p, hp, hv⟩ := hv
    have hpd := ev1_den hg ha (hf x (by simp [Op.operands])) hp
    have hzd := ev1_den hg ha (hf y (by simp [Op.operands])) hz
    unfold aStore at hv
    split at hv
    · rename_i j off
      replace hv := om_some hv
      obtain ⟨h2, hst, hv⟩ := hv
      cases hv
      simp only [denA, denC, den0] at hpd
      obtain ⟨L, hL, hpd⟩ := Option.map_eq_some_iff.1 hpd
      obtain ⟨w', k1, k2, k3⟩ := store_run H1 hL hzd hst
      refine finU ⟨rfl, Nat.le_of_eq (storeV_n hst).symm, w', k2, k3, ?_⟩
      rw [← hpd]; exact k1
    · cases hv
  case mapUpdate t x k y =>
    replace hv := ob_some hv
    obtain ⟨m, hm, hv⟩ := hv
    replace hv := ob_some hv
    obtain ⟨k', hk, hv⟩ := hv
    replace hv := ob_some hv
    obtain ⟨y', hy, hv⟩ := hv
    exact finU (mapPut_run H1 hv (ev1_den hg ha (hf x (by simp [Op.operands])) hm) (ev1_den hg ha (hf k (by simp [Op.operands])) hk) (ev1_den hg ha (hf y (by simp [Op.operands])) hy))
  case insert t x k y =>
    replace hv := ob_some hv
    obtain ⟨m, hm, hv⟩ := hv
    replace hv := ob_some hv
    obtain ⟨k', hk, hv⟩ := hv
    replace hv := ob_some hv
    obtain ⟨y', hy, hv⟩ := hv
    exact finU (mapPut_run H1 hv (ev1_den hg ha (hf x (by simp [Op.operands])) hm) (ev1_den hg ha (hf k (by simp [Op.operands])) hk) (ev1_den hg ha (hf y (by simp [Op.operands])) hy))
  case mapEntry t x k =>
    replace hv := ob_some hv
    obtain ⟨m, hm, hv⟩ := hv
    replace hv := ob_some hv
    obtain ⟨k', hk, hv⟩ := hv
    exact fin (mapEntry_run H1 hv (ev1_den hg ha (hf x (by simp [Op.operands])) hm) (ev1_den hg ha (hf k (by simp [Op.operands])) hk))
  case entryStore t x st y =>
    replace hv := ob_some hv
    obtain ⟨m, hm, hv⟩ := hv
    replace hv := ob_some hv
    obtain ⟨s', hs, hv⟩ := hv
    replace hv := ob_some hv
    obtain ⟨n, hn, hv⟩ := hv
    replace hv := ob_some hv
    obtain ⟨y', hy, hv⟩ := hv
    exact finU (entryStore_run H1 hn hv (ev1_den hg ha (hf x (by simp [Op.operands])) hm) (ev1_den hg ha (hf st (by simp [Op.operands])) hs) (ev1_den hg ha (hf y (by simp [Op.operands])) hy))
  case range t x =>
    replace hv := ob_some hv
    obtain ⟨m, hm, hv⟩ := hv
    exact fin (range_run H1 hv (ev1_den hg ha (hf x (by simp [Op.operands])) hm))
  case entry x =>
    replace hv := ob_some hv
    obtain ⟨m, hm, hv⟩ := hv
    exact fin (entry_run H1 hv (ev1_den hg ha (hf x (by simp [Op.operands])) hm))
  case call c =>
    unfold aCallee at hv
    split at hv
    · rename_i b hcal
      replace hv := ob_some hv
      obtain ⟨l, hl, hv⟩ := hv
      have d1 := evs1_den (ρ := ρ) hg ha (l := c.args.toList) (fun x hx => hf x (by simp [Op.operands, Call.operands] at hx ⊢; exact .inr hx)) hl
      have eargs := two_toArray d1
      have main : ∃ s : Sem Value, (execOp a.eval ⟨dst, .call c, type, pos, after, guard⟩) = (do pure (Next.value (← s))) ∧ ActR C ρ Φ base h.n h' v w s := by
        unfold aBlt at hv
        split at hv
        · rename_i x
          obtain ⟨x', hx, e⟩ : ∃ x', denA ρ Φ x = some x' ∧ c.args.toList.map a.eval = [x'] := by
            generalize c.args.toList.map a.eval = L at d1 ⊢
            cases d1 with | cons h1 h2 => cases h2; exact ⟨_, h1, rfl⟩
          split at hv
          · rename_i t ts hts
            replace hv := ob_some hv
            obtain ⟨u, hu, hv⟩ := hv
            have ht : c.argTypes[0]? = some t := by rw [← Array.getElem?_toList, hts]; rfl
            refine ⟨_, ?_, clear_run (ty := type) H1 ht hu hv hx⟩
            rw [e] at eargs
            simp only [execOp, resolve, hcal]
            rw [← eargs]; rfl
          · cases hv
        · rename_i x y
          obtain ⟨x', y', hx, hy, e⟩ : ∃ x' y', denA ρ Φ x = some x' ∧ denA ρ Φ y = some y' ∧ c.args.toList.map a.eval = [x', y'] := by
            generalize c.args.toList.map a.eval = L at d1 ⊢
            cases d1 with | cons h1 h2 => cases h2 with | cons h3 h4 => cases h4; exact ⟨_, _, h1, h3, rfl⟩
          rw [e] at eargs
          split at hv
          · rename_i t t' ts hts
            replace hv := ob_some hv
            obtain ⟨e', he', hv⟩ := hv
            replace hv := ob_some hv
            obtain ⟨e1, he1, hv⟩ := hv
            have ht : c.argTypes[0]? = some t := by rw [← Array.getElem?_toList, hts]; rfl
            have ht' : c.argTypes[1]? = some t' := by rw [← Array.getElem?_toList, hts]; rfl
            obtain ⟨r, w', Φ', k1, k2, k3, k4, k5⟩ := append_run (ty := type) H1 ht ht' (elemT_some he1) (elemT_some he') hx hy hv
            refine ⟨_, ?_, r, w', Φ', k1, k2, k3, den_of0 k4, k5⟩
            simp only [execOp, resolve, hcal]
            rw [← eargs]; rfl
          · rename_i t ts hts
            have ht : c.argTypes[0]? = some t := by rw [← Array.getElem?_toList, hts]; rfl
            refine ⟨_, ?_, copy_run (ty := type) H1 ht hv hx hy⟩
            simp only [execOp, resolve, hcal]
            rw [← eargs]; rfl
          · rename_i t ts hts
            have ht : c.argTypes[0]? = some t := by rw [← Array.getElem?_toList, hts]; rfl
            refine ⟨_, ?_, delete_run (ty := type) H1 ht hv hx hy⟩
            simp only [execOp, resolve, hcal]
            rw [← eargs]; rfl
          · cases hv
        · cases hv
      obtain ⟨s, e, hs⟩ := main
      rw [e]
      exact fin hs
    · cases hv
end
end Go.Proofs.YtolheapnopmhgaaGreatDoor
