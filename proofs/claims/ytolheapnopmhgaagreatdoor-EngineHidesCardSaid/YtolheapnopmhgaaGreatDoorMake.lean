/- What the evaluator says of operations that make a block, and do nothing else, is so. -/
import Derived.Test.YtolheapnopmhgaaGreatDoorQuiet11
set_option linter.all false
namespace Go.Proofs.YtolheapnopmhgaaGreatDoor
open Go

/-- Where a new block is to lie. -/
noncomputable def locOf (b : Nat) : O → Loc
  | .cells _ n sz _ => ⟨b, 0, n / sz, sz⟩
  | _ => ⟨b, 0, 0, 0⟩

section
variable {C : Ctx} {ρ : Sym} {Φ : Env} {base : Nat} {h : H} {w : World}

theorem own_some {z : V} {c : Tr V} (hc : z.own = some c) : ∀ i, i < z.size → c.get i = z.nth i := by
  by_cases hag : ∃ t off n, z = .agg t off n
  · obtain ⟨t, off, n, rfl⟩ := hag
    intro i hi
    cases off with
    | zero =>
      have : t = c := Option.some.inj hc
      subst this
      show t.get i = t.get (0 + i)
      congr 1; omega
    | succ off =>
      have hc : t.cpy n (off + 1) .nil 0 = some c := hc
      obtain ⟨h1, _⟩ := Tr.cpy_some _ _ _ _ _ hc i
      rw [(h1 ⟨by omega, by simpa [V.size] using hi⟩).1]
      rfl
  · by_cases htup : ∃ l, z = .tup l
    · obtain ⟨l, rfl⟩ := htup; cases hc
    · have hs : z.size = 1 := by cases z <;> first | rfl | exact absurd ⟨_, _, _, rfl⟩ hag
      intro i hi
      rw [hs] at hi
      cases Nat.lt_one_iff.1 hi
      cases z <;> first | exact absurd ⟨_, _, _, rfl⟩ hag | exact absurd ⟨_, rfl⟩ htup | (have := Option.some.inj hc; subst this; rfl)

/-- A new block, and what leads there. -/
def MakeR (C : Ctx) (ρ : Sym) (Φ : Env) (base : Nat) (q : Mk) (w : World) (s : Sem Value) : Prop :=
  ∃ obj x, s.run C.P w = .ok x (w.alloc obj) ∧ ∀ Φ' j, Ge Φ Φ' → Φ' j = some (locOf w.heap.size q.o) → den ρ Φ' (q.at_ j) = some x ∧ (base ≤ w.heap.size → ∀ w', w'.heap[w.heap.size]? = some obj → ObjR C.odd ρ Φ' (locOf w.heap.size q.o) base q.o w')

theorem newRow_run (e : TypeId) (cs : Array Value) : (newRow e cs).run C.P w = .ok ⟨w.heap.size, 0, none⟩ (w.alloc (.cells cs e)) := by
  unfold newRow newObj; rfl
theorem box_run {z : V} {x : Value} {q : Mk} {e : TypeId} (hq : boxV z = some q) (hx : denA ρ Φ z = some x) : MakeR C ρ Φ base q w (Instr.box e x) := by
  unfold boxV at hq
  replace hq := om_some hq
  obtain ⟨c, hc, rfl⟩ := hq
  refine ⟨.cells x.cells e, .pointer (some ⟨w.heap.size, 0, none⟩), ?_, fun Φ' j hge hj => ⟨?_, fun hb w' hw => ?_⟩⟩
  · simp only [Instr.box, newVar, Sem.run_bind, newRow_run, Result.andThen, Sem.run_pure]
  · simp only [den, denA, denC, den0, hj, Option.map_some, Loc.at_, locOf]
  · obtain ⟨h1, h2⟩ := cells_den hx
    refine ⟨rfl, ?_, fun _ => hb, x.cells, e, (0, 0), hw, fun _ => rfl, ?_, fun i hi => ?_⟩
    · simp [locOf]
    · simp [locOf, h1]
    · obtain ⟨u, y, h3, h4, h5⟩ := h2 i hi
      exact ⟨u, y, by rw [own_some hc i hi]; exact h3, denC_ge hge h4, by simpa [locOf] using h5⟩
theorem timesZ_some {z : V} {sz : Nat} (hs : z.size = sz) : ∀ (n i : Nat) (t t' : Tr V), timesZ z sz n i t = some t' → ∀ j, (i ≤ j ∧ j < i + n * sz → t'.get j = z.nth ((j - i) % sz)) ∧ (¬ (i ≤ j ∧ j < i + n * sz) → t'.get j = t.get j) := by
  intro n
  induction n with
  | zero =>
    intro i t t' ht j
    have : t = t' := Option.some.inj ht
    subst this
    exact ⟨fun hj => by omega, fun _ => rfl⟩
  | succ n ih =>
    intro i t t' ht j
    change ob (z.into t i) (timesZ z sz n (i + sz)) = some t' at ht
    replace ht := ob_some ht
    obtain ⟨t1, h1, ht⟩ := ht
    obtain ⟨h2, h3⟩ := ih _ _ _ ht j
    obtain ⟨h4, h5⟩ := into_some h1 j
    rw [hs] at h4 h5
    have hmul : (n + 1) * sz = n * sz + sz := Nat.succ_mul n sz
    refine ⟨fun hj => ?_, fun hj => ?_⟩
    · by_cases hlt : j < i + sz
      · rw [h3 (by omega), h4 (by omega)]
        rw [Nat.mod_eq_of_lt (by omega)]
      · rw [h2 (by omega)]
        have : j - i = (j - (i + sz)) + sz := by omega
        rw [this, Nat.add_mod_right]
    · rw [h3 (by omega), h5 (by omega)]
theorem covers_mem : ∀ {ps : List (Nat × V)} {i n : Nat}, covers ps i n = true → ∀ k, i ≤ k → k < n → ∃ p ∈ ps, p.1 = k := by
  intro ps
  induction ps with
  | nil => intro i n h k h1 h2; have := Nat.eq_of_beq_eq_true h; omega
  | cons p ps ih =>
    intro i n h k h1 h2
    simp only [covers, Bool.and_eq_true] at h
    by_cases e : k = i
    · exact ⟨p, List.mem_cons_self, by rw [e]; exact Nat.eq_of_beq_eq_true h.1⟩
    · obtain ⟨q, hq, hk⟩ := ih h.2 k (by show i + 1 ≤ k; omega) h2
      exact ⟨q, List.mem_cons_of_mem _ hq, hk⟩
/-- What is nought, over and over. -/
theorem times_part {z : V} {x : Value} {sz n : Nat} {c : Tr V} (hx : denA ρ Φ z = some x) (hs : z.size = sz) (hc : timesZ z sz n 0 .nil = some c) :
    PartR ρ Φ c (n * sz) ((Array.range (n * sz)).map (x.cells[· % x.cells.size]!)) ∧ ∀ j, j < n * sz → ∃ v, c.get j = some v := by
  obtain ⟨h1, h2⟩ := cells_den hx
  have hget : ∀ j, j < n * sz → 0 < sz ∧ c.get j = z.nth (j % sz) := fun j hj => by
    have hp : 0 < sz := by rcases Nat.eq_zero_or_pos sz with e | e
                           · subst e; simp at hj
                           · exact e
    have := (timesZ_some hs n 0 _ c hc j).1 ⟨by omega, by omega⟩
    exact ⟨hp, by rw [this]; rfl⟩
  refine ⟨⟨by simp, fun j v hj hv => ?_⟩, fun j hj => ?_⟩
  · obtain ⟨hp, hg⟩ := hget j hj
    rw [hg] at hv
    obtain ⟨u, y, h3, h4, h5⟩ := h2 (j % sz) (by rw [hs]; exact Nat.mod_lt _ hp)
    rw [hv] at h3; cases h3
    refine ⟨y, h4, ?_⟩
    have hlt : j % sz < x.cells.size := by rw [h1, hs]; exact Nat.mod_lt _ hp
    have hy : x.cells[j % sz]! = y := by
      rw [Array.getElem!_eq_getD, Array.getD_eq_getD_getElem?, h5]; rfl
    rw [Array.getElem?_map, Array.getElem?_range]
    simp [hj, h1, hs, hy]
  · obtain ⟨hp, hg⟩ := hget j hj
    obtain ⟨u, y, h3, _, _⟩ := h2 (j % sz) (by rw [hs]; exact Nat.mod_lt _ hp)
    exact ⟨u, by rw [hg]; exact h3⟩
/-- A table that is whole, in a new block. -/
theorem cellsR_of {c : Tr V} {n sz : Nat} {arr : Array Value} {e : TypeId} (hr : PartR ρ Φ c (n * sz) arr) (ht : ∀ j, j < n * sz → ∃ v, c.get j = some v) {Φ' : Env} (hge : Ge Φ Φ') {b : Nat} (hb : base ≤ b) {w' : World} (hw : w'.heap[b]? = some (.cells arr e)) :
    ObjR C.odd ρ Φ' (locOf b (.cells false (n * sz) sz c)) base (.cells false (n * sz) sz c) w' := by
  have hK : n * sz / sz * sz = n * sz := by
    rcases Nat.eq_zero_or_pos sz with e | e
    · subst e; simp
    · rw [Nat.mul_div_cancel _ e]
  refine ⟨rfl, by show n * sz ≤ n * sz / sz * sz; omega, fun _ => hb, arr, e, (0, 0), hw, fun _ => rfl, ?_, fun i hi => ?_⟩
  · show 0 + n * sz / sz * sz ≤ arr.size
    rw [hK, hr.1]; omega
  · obtain ⟨v, hv⟩ := ht i hi
    obtain ⟨x, h1, h2⟩ := hr.2 i v hi hv
    exact ⟨v, x, hv, denC_ge hge h1, by show arr[0 + i]? = some x; rw [Nat.zero_add]; exact h2⟩
theorem buildSlice_run {pend : Nat → Prop} {A : A} {a : Act} (hg : GR C Φ) (ha : AR ρ Φ pend A a) {t : TypeId} {n : Nat} {parts : Array (Nat × Operand)} {ps : List (Nat × V)} {q : Mk} (hf : ∀ x ∈ parts.toList, free pend x.2)
    (hps : evParts C A parts.toList = some ps) (hq : aBuildSlice C t n ps = some q) :
    MakeR C ρ Φ base q w (Instr.buildSlice t n (parts.map fun (i, x) => (i, a.eval x))) := by
  unfold aBuildSlice at hq
  replace hq := ob_some hq
  obtain ⟨e, he, hq⟩ := hq
  replace hq := ob_some hq
  obtain ⟨sz, hsz, hq⟩ := hq
  replace hq := ob_some hq
  obtain ⟨z, hz, hq⟩ := hq
  unfold aSlice at hq
  replace hq := guardO_some hq
  obtain ⟨hgd, hq⟩ := hq
  simp only [Bool.and_eq_true] at hgd
  have hle : n * sz ≤ 65536 := Nat.le_of_ble_eq_true hgd.1
  have hzs : z.size = sz := Nat.eq_of_beq_eq_true hgd.2
  replace hq := ob_some hq
  obtain ⟨c0, hc0, hq⟩ := hq
  replace hq := om_some hq
  obtain ⟨c, hc, rfl⟩ := hq
  obtain ⟨zx, hzrun, hzd⟩ := zeroT_run (ρ := ρ) hz w
  have hu := elemT_some he
  have h2 := evParts_den (ρ := ρ) hg ha hf hps
  have hpl : (parts.map fun (i, x) => (i, a.eval x)).toList = parts.toList.map fun x => (x.1, a.eval x.2) := by simp
  obtain ⟨zc, hzc⟩ : ∃ zc : Array Value, (if n * sz = 0 then #[] else zx.cells) = zc := ⟨_, rfl⟩
  have hsize : ((Array.range (n * sz)).map (zc[· % zc.size]!)).size = n * sz := by simp
  -- what was there ahead of the parts
  have h0 : PartR ρ Φ c0 (n * sz) ((Array.range (n * sz)).map (zc[· % zc.size]!)) ∧ ((∀ j, j < n * sz → ∃ v, c0.get j = some v) ∨ covers ps 0 n = true) := by
    rw [boolRec_eq] at hc0
    split at hc0
    · rename_i hcov
      cases hc0
      exact ⟨⟨hsize, fun j v _ hv => by rw [Tr.get_nil] at hv; cases hv⟩, .inr hcov⟩
    · obtain ⟨h3, h4⟩ := times_part (hzd Φ) hzs hc0
      by_cases hn0 : n * sz = 0
      · exact ⟨⟨hsize, fun j v hj _ => by omega⟩, .inl h4⟩
      · rw [if_neg hn0] at hzc
        subst hzc
        exact ⟨h3, .inl h4⟩
  obtain ⟨arr', h5, h6, h7, h8⟩ := layParts_fill (place' := fun i => some (i * sz, sz)) (n := n * sz) (fun i q hq => by
    replace hq := guardO_some hq
    obtain ⟨hle, hq⟩ := hq
    cases hq
    exact ⟨rfl, Nat.le_of_ble_eq_true hle⟩) h2 h0.1 hc
  have htot : ∀ j, j < n * sz → ∃ v, c.get j = some v := fun j hj => by
    rcases h0.2 with h9 | h9
    · exact h7 j (h9 j hj)
    · have hp : 0 < sz := by
        rcases Nat.eq_zero_or_pos sz with e | e
        · subst e; simp at hj
        · exact e
      have hk : j / sz < n := Nat.div_lt_of_lt_mul (by rw [Nat.mul_comm]; exact hj)
      obtain ⟨p, hp1, hp2⟩ := covers_mem h9 (j / sz) (Nat.zero_le _) hk
      have hmul : j / sz * sz + sz ≤ n * sz := by
        have : (j / sz + 1) * sz ≤ n * sz := Nat.mul_le_mul_right _ hk
        rw [Nat.succ_mul] at this; exact this
      have hd := Nat.div_add_mod j sz
      have hm := Nat.mod_lt j hp
      rw [Nat.mul_comm] at hd
      exact h8 p hp1 (j / sz * sz, sz) (by rw [hp2]; unfold placeA; rw [Nat.ble_eq_true_of_le hmul]; rfl) j (by show j / sz * sz ≤ j; omega) (by show j < j / sz * sz + sz; omega)
  refine ⟨.cells arr' e, .slice (some ⟨w.heap.size, 0, none⟩) n n, ?_, fun Φ' j hge hj => ⟨?_, fun hb w' hw => ?_⟩⟩
  · unfold Instr.buildSlice
    rw [Sem.run_bind, under_run hu, Result.andThen]
    simp only []
    rw [Sem.run_bind, sizeT_run hsz, Result.andThen]
    rw [if_neg (by omega)]
    rw [hpl]
    split
    · rename_i hn0
      rw [if_pos hn0] at hzc
      subst hzc
      rw [Sem.run_bind, Sem.run_pure, Result.andThen, h5]
      simp only [Sem.run_bind, newRow_run, Result.andThen, Sem.run_pure]
    · rename_i hn0
      rw [if_neg hn0] at hzc
      subst hzc
      rw [Sem.run_bind, hzrun, Result.andThen, Sem.run_bind, Sem.run_pure, Result.andThen, h5]
      simp only [Sem.run_bind, newRow_run, Result.andThen, Sem.run_pure]
  · simp only [den, denA, denC, den0, hj, Option.map_some, Loc.at_, locOf]
  · exact cellsR_of h6 htot hge hb hw
theorem wrap_small {n : Nat} (hn : n ≤ 1048576) : IntKind.i64.wrap (n : Int) = n := by
  rw [← wrapI_eq]
  show (Bool.rec (IntKind.wrap .i64 (.ofNat n)) (.ofNat n) (Nat.blt n 9223372036854775808) : Int) = _
  rw [boolRec_eq, if_pos (by rw [Nat.blt_eq]; omega)]; rfl
theorem askRoom_run (n : Nat) : (askRoom n).run C.P w = .ok () w := by
  unfold askRoom
  split <;> rfl
theorem makeSlice_run {t : TypeId} {x y : V} {x' y' : Value} {q : Mk} (hx : denA ρ Φ x = some x') (hy : denA ρ Φ y = some y') (hq : aMakeSlice C t x y = some q) :
    MakeR C ρ Φ base q w (Instr.makeSlice t x' y') := by
  unfold aMakeSlice at hq
  replace hq := ob_some hq
  obtain ⟨e, he, hq⟩ := hq
  replace hq := ob_some hq
  obtain ⟨sz, hsz, hq⟩ := hq
  replace hq := ob_some hq
  obtain ⟨by_, hby, hq⟩ := hq
  replace hq := ob_some hq
  obtain ⟨z, hz, hq⟩ := hq
  replace hq := ob_some hq
  obtain ⟨n, hn, hq⟩ := hq
  replace hq := ob_some hq
  obtain ⟨m, hm, hq⟩ := hq
  unfold aMake at hq
  replace hq := guardO_some hq
  obtain ⟨hgd, hq⟩ := hq
  replace hq := om_some hq
  obtain ⟨c, hc, rfl⟩ := hq
  simp only [Bool.and_eq_true] at hgd
  obtain ⟨⟨⟨g1, g2⟩, g3⟩, g4⟩ := hgd
  have g1 : n ≤ m := Nat.le_of_ble_eq_true g1
  have g2 : m * by_ ≤ 1048576 := Nat.le_of_ble_eq_true g2
  have g3 : m ≤ 1048576 := Nat.le_of_ble_eq_true g3
  have g4 : z.size = sz := Nat.eq_of_beq_eq_true g4
  obtain ⟨k1, rfl⟩ := natOf_den hn hx
  obtain ⟨k2, rfl⟩ := natOf_den hm hy
  obtain ⟨zx, hzrun, hzd⟩ := zeroT_run (ρ := ρ) hz w
  obtain ⟨i, hi, hib⟩ := bytesT_run hby
  have hu := elemT_some he
  obtain ⟨h3, h4⟩ := times_part (hzd Φ) g4 hc
  obtain ⟨zc, hzc⟩ : ∃ zc : Array Value, (if m * sz = 0 then #[] else zx.cells) = zc := ⟨_, rfl⟩
  have h0 : PartR ρ Φ c (m * sz) ((Array.range (m * sz)).map (zc[· % zc.size]!)) := by
    by_cases hn0 : m * sz = 0
    · exact ⟨by simp, fun j v hj _ => by omega⟩
    · rw [if_neg hn0] at hzc
      subst hzc
      exact h3
  refine ⟨.cells ((Array.range (m * sz)).map (zc[· % zc.size]!)) e, .slice (some ⟨w.heap.size, 0, none⟩) n m, ?_, fun Φ' j hge hj => ⟨?_, fun hb w' hw => ?_⟩⟩
  · have hw1 := wrap_small (n := n) (by omega)
    have hw2 := wrap_small (n := m) g3
    have hbig : ¬ ((by_ : Int) * (m : Int) > 2 ^ 48) := by
      have : ((m * by_ : Nat) : Int) ≤ 1048576 := by omega
      rw [Int.mul_comm]
      have e1 : (m : Int) * (by_ : Int) = ((m * by_ : Nat) : Int) := (Int.natCast_mul m by_).symm
      rw [e1]; omega
    have hti : (typeInfo e).run C.P w = .ok i w := by simp [typeInfo, hi]
    have hzero : ∀ (K : Array Value → Sem Value) (r : Result Value), (K zc).run C.P w = r → ((if m * sz = 0 then (do let zero ← pure #[]; K zero) else (do let v ← zeroValue e; let zero ← pure v.cells; K zero)) : Sem Value).run C.P w = r := fun K r hK => by
      split
      · rename_i hn0
        rw [if_pos hn0] at hzc
        subst hzc
        exact hK
      · rename_i hn0
        rw [if_neg hn0] at hzc
        subst hzc
        rw [Sem.run_bind, hzrun]
        exact hK
    unfold Instr.makeSlice
    rw [Sem.run_bind, under_run hu, Result.andThen]
    simp only [asInt, asIntOf]
    simp only [Sem.run_bind, Sem.run_pure, Result.andThen, hti, hib, hw1, hw2]
    have c1 : (decide ((m : Int) < 0) || decide ((by_ : Int) * (m : Int) > 2 ^ 48)) = false := by rw [decide_eq_false hbig, decide_eq_false (by omega)]; rfl
    rw [if_neg (by simp only [c1, Bool.false_or]; simp; omega)]
    simp only [Sem.run_bind, askRoom_run, Result.andThen, Int.toNat_natCast, sizeT_run hsz]
    refine hzero (fun zero => do
      let a ← newRow e ((Array.range (m * sz)).map (zero[· % zero.size]!))
      pure (.slice (some a) n m)) _ ?_
    simp only [Sem.run_bind, newRow_run, Result.andThen, Sem.run_pure]
  · simp only [den, denA, denC, den0, hj, Option.map_some, Loc.at_, locOf]
  · exact cellsR_of h0 h4 hge hb hw
/-- WHAT THE EVALUATOR SAYS OF AN OPERATION THAT MAKES A BLOCK IS SO. -/
theorem mkV_run (hg : GR C Φ) {pend : Nat → Prop} {A : A} {a : Act} (ha : AR ρ Φ pend A a) {o : Oper} {q : Mk} (hf : ∀ x ∈ o.op.operands.toList, free pend x) (hq : mkV C A o = some q) :
    ∃ obj x, (execOp a.eval o).run C.P w = .ok (.value x) (w.alloc obj) ∧ ∀ Φ' j, Ge Φ Φ' → Φ' j = some (locOf w.heap.size q.o) → den ρ Φ' (q.at_ j) = some x ∧
      (base ≤ w.heap.size → ∀ w', w'.heap[w.heap.size]? = some obj → ObjR C.odd ρ Φ' (locOf w.heap.size q.o) base q.o w') := by
  have fin : ∀ {s : Sem Value}, MakeR C ρ Φ base q w s → ∃ obj x, (do pure (Next.value (← s)) : Sem Next).run C.P w = .ok (.value x) (w.alloc obj) ∧ ∀ Φ' j, Ge Φ Φ' → Φ' j = some (locOf w.heap.size q.o) → den ρ Φ' (q.at_ j) = some x ∧
      (base ≤ w.heap.size → ∀ w', w'.heap[w.heap.size]? = some obj → ObjR C.odd ρ Φ' (locOf w.heap.size q.o) base q.o w') := fun ⟨obj, x, h1, h2⟩ => ⟨obj, x, by rw [Sem.run_bind, h1]; rfl, h2⟩
  obtain ⟨dst, op, type, pos, after, guard⟩ := o
  unfold mkV at hq
  simp only at hq hf
  cases op <;> simp only [mkO] at hq <;> first | (cases hq; done) | skip
  case alloc t =>
    replace hq := ob_some hq
    obtain ⟨z, hz, hq⟩ := hq
    obtain ⟨zx, hzrun, hzd⟩ := zeroT_run (ρ := ρ) hz w
    obtain ⟨obj, x, h1, h2⟩ := box_run (C := C) (base := base) (w := w) (e := t) hq (hzd Φ)
    refine fin ⟨obj, x, ?_, h2⟩
    unfold Instr.alloc
    rw [Sem.run_bind, hzrun, Result.andThen]
    exact h1
  case box t x =>
    replace hq := ob_some hq
    obtain ⟨z, hz, hq⟩ := hq
    exact fin (box_run hq (ev1_den hg ha (hf x (by simp [Op.operands])) hz))
  case buildSlice t n parts =>
    replace hq := ob_some hq
    obtain ⟨ps, hps, hq⟩ := hq
    exact fin (buildSlice_run hg ha (fun x hx => hf x.2 (by simp only [Op.operands]; exact List.mem_map.2 ⟨x, hx, rfl⟩)) hps hq)
  case makeMap t r =>
    cases r with
    | some r => cases hq
    | none =>
      cases hq
      refine fin ⟨.map #[] 0, .map (some w.heap.size), rfl, fun Φ' j hge hj => ⟨?_, fun hb w' hw => ?_⟩⟩
      · simp only [den, denA, denC, den0, hj, Option.map_some, locOf]
      · exact ⟨hb, #[], hw, .nil⟩
  case makeSlice t l c =>
    replace hq := ob_some hq
    obtain ⟨x, hx, hq⟩ := hq
    replace hq := ob_some hq
    obtain ⟨y, hy, hq⟩ := hq
    exact fin (makeSlice_run (ev1_den hg ha (hf l (by simp [Op.operands])) hx) (ev1_den hg ha (hf c (by simp [Op.operands])) hy) hq)
end
end Go.Proofs.YtolheapnopmhgaaGreatDoor
