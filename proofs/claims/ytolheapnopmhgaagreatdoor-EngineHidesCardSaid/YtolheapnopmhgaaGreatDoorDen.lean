/- What the evaluator's values and heaps stand for. -/
import Derived.Test.YtolheapnopmhgaaGreatDoorTab
import Derived.Calls
import Derived.Laws.World
set_option linter.all false
namespace Go.Proofs.YtolheapnopmhgaaGreatDoor
open Go

/-- Where a block lies: which, from where on; its capacity in parts, and a part's size. -/
structure Loc where
  blk : Nat
  d : Nat
  K : Nat
  sz : Nat

/-- What symbols stand for. -/
structure Sym where
  y : Nat → Int
  z : Nat → Value
  hz : ∀ k, (∀ cs, z k ≠ .agg cs) ∧ ∀ cs, z k ≠ .tuple cs

abbrev Env := Nat → Option Loc

noncomputable def Loc.at_ (L : Loc) (off : Nat) : Addr := ⟨L.blk, L.d + off, none⟩

section
variable (ρ : Sym)

noncomputable def den0 (Φ : Env) : V → Option Value
  | .b x => some (.bool x)
  | .i k n => some (.int k n)
  | .s x => some (.string x)
  | .pn => some (.pointer none)
  | .p j off => (Φ j).map fun L => .pointer (some (L.at_ off))
  | .sn => some (.slice none 0 0)
  | .sl j off len (some c) => (Φ j).map fun L => .slice (some (L.at_ off)) len c
  | .sl j off len none => (Φ j).map fun L => .slice (some (L.at_ off)) len (L.K - off / L.sz)
  | .se j off l => (Φ j).map fun L => if L.K - off / L.sz = l then .slice (some (L.at_ off)) 0 0 else .slice (some (L.at_ (off + l * L.sz))) 0 (L.K - off / L.sz - l)
  | .mn => some (.map none)
  | .m j => (Φ j).map fun L => .map (some L.blk)
  | .fn => some .nilFunc
  | .y k => some (.int .i64 (ρ.y k))
  | .z k => some (ρ.z k)
  | .f _ _ _ => none
  | .agg _ _ _ => none
  | .tup _ => none
noncomputable def mapO' {α β : Type} (f : α → Option β) : List α → Option (List β)
  | [] => some []
  | x :: l => (f x).bind fun y => (mapO' f l).map fun r => y :: r
noncomputable def denFn (Φ : Env) : Fn → Option Fn
  | .func f => some (.func f)
  | .yield l => (Φ l).map fun L => .yield L.blk
  | _ => none
/-- A cell's. -/
noncomputable def denC (Φ : Env) : V → Option Value
  | .f fn first cap => (denFn Φ fn).bind fun g => (mapO' (den0 ρ Φ) first).bind fun a => (mapO' (den0 ρ Φ) cap).map fun c => .func g a.toArray c.toArray
  | v => den0 ρ Φ v
/-- n cells of a table. -/
noncomputable def denRow (Φ : Env) (t : Tr V) : Nat → Nat → Option (List Value)
  | _, 0 => some []
  | off, n + 1 => (t.get off).bind fun v => (denC ρ Φ v).bind fun x => (denRow Φ t (off + 1) n).map fun l => x :: l
noncomputable def denA (Φ : Env) : V → Option Value
  | .agg t off n => (denRow ρ Φ t off n).map fun l => .agg l.toArray
  | v => denC ρ Φ v
noncomputable def den (Φ : Env) : V → Option Value
  | .tup l => (mapO' (denA ρ Φ) l).map fun l => .tuple l.toArray
  | v => denA ρ Φ v

/-- More is there. -/
noncomputable def Ge (Φ Φ' : Env) : Prop := ∀ j L, Φ j = some L → Φ' j = some L
end

theorem Ge.refl (Φ : Env) : Ge Φ Φ := fun _ _ h => h
theorem Ge.trans {Φ Φ' Φ'' : Env} (h : Ge Φ Φ') (h' : Ge Φ' Φ'') : Ge Φ Φ'' := fun j L hj => h' j L (h j L hj)

section
variable {ρ : Sym} {Φ Φ' : Env}

theorem map_ge {α : Type} {j : Nat} {f : Loc → α} {y : α} (h : Ge Φ Φ') (hy : (Φ j).map f = some y) : (Φ' j).map f = some y := by
  cases hj : Φ j with
  | none => rw [hj] at hy; cases hy
  | some L => rw [h j L hj]; rw [hj] at hy; exact hy
theorem den0_ge (h : Ge Φ Φ') {v : V} {x : Value} (hv : den0 ρ Φ v = some x) : den0 ρ Φ' v = some x := by
  cases v <;> simp only [den0] at hv ⊢ <;> first | exact hv | exact map_ge h hv | (cases hv; done) | skip
  rename_i c
  cases c <;> simp only [den0] at hv ⊢ <;> exact map_ge h hv
theorem mapO'_ge {α β : Type} {f g : α → Option β} (h : ∀ x y, f x = some y → g x = some y) : ∀ {l : List α} {r : List β}, mapO' f l = some r → mapO' g l = some r := by
  intro l
  induction l with
  | nil => intro r hr; exact hr
  | cons x l ih =>
    intro r hr
    simp only [mapO'] at hr ⊢
    obtain ⟨y, hy, hr⟩ := Option.bind_eq_some_iff.1 hr
    obtain ⟨s, hs, rfl⟩ := Option.map_eq_some_iff.1 hr
    rw [h x y hy, ih hs]; rfl
theorem denFn_ge (h : Ge Φ Φ') {f g : Fn} (hf : denFn Φ f = some g) : denFn Φ' f = some g := by
  cases f <;> simp only [denFn] at hf ⊢ <;> first | exact hf | exact map_ge h hf
theorem denC_ge (h : Ge Φ Φ') {v : V} {x : Value} (hv : denC ρ Φ v = some x) : denC ρ Φ' v = some x := by
  cases v <;> simp only [denC] at hv ⊢ <;> first | exact den0_ge h hv | skip
  obtain ⟨g, hg, hv⟩ := Option.bind_eq_some_iff.1 hv
  obtain ⟨a, ha, hv⟩ := Option.bind_eq_some_iff.1 hv
  obtain ⟨c, hc, rfl⟩ := Option.map_eq_some_iff.1 hv
  rw [denFn_ge h hg, mapO'_ge (fun _ _ => den0_ge h) ha, mapO'_ge (fun _ _ => den0_ge h) hc]; rfl
theorem denRow_ge (h : Ge Φ Φ') {t : Tr V} : ∀ {n off : Nat} {l : List Value}, denRow ρ Φ t off n = some l → denRow ρ Φ' t off n = some l := by
  intro n
  induction n with
  | zero => intro off l hl; exact hl
  | succ n ih =>
    intro off l hl
    simp only [denRow] at hl ⊢
    obtain ⟨v, hv, hl⟩ := Option.bind_eq_some_iff.1 hl
    obtain ⟨x, hx, hl⟩ := Option.bind_eq_some_iff.1 hl
    obtain ⟨r, hr, rfl⟩ := Option.map_eq_some_iff.1 hl
    rw [hv]; simp only [Option.bind_some]; rw [denC_ge h hx, ih hr]; rfl
theorem denA_ge (h : Ge Φ Φ') {v : V} {x : Value} (hv : denA ρ Φ v = some x) : denA ρ Φ' v = some x := by
  cases v <;> simp only [denA] at hv ⊢ <;> first | exact denC_ge h hv | skip
  obtain ⟨l, hl, rfl⟩ := Option.map_eq_some_iff.1 hv
  rw [denRow_ge h hl]; rfl
theorem den_ge (h : Ge Φ Φ') {v : V} {x : Value} (hv : den ρ Φ v = some x) : den ρ Φ' v = some x := by
  cases v <;> simp only [den] at hv ⊢ <;> first | exact denA_ge h hv | skip
  obtain ⟨l, hl, rfl⟩ := Option.map_eq_some_iff.1 hv
  rw [mapO'_ge (fun _ _ => denA_ge h) hl]; rfl

/-! Rows of cells. -/
theorem denRow_some {t : Tr V} : ∀ {n off : Nat} {l : List Value}, denRow ρ Φ t off n = some l → l.length = n ∧ ∀ i, i < n → ∃ v x, t.get (off + i) = some v ∧ denC ρ Φ v = some x ∧ l[i]? = some x := by
  intro n
  induction n with
  | zero => intro off l hl; cases hl; exact ⟨rfl, fun i hi => by omega⟩
  | succ n ih =>
    intro off l hl
    simp only [denRow] at hl
    obtain ⟨v, hv, hl⟩ := Option.bind_eq_some_iff.1 hl
    obtain ⟨x, hx, hl⟩ := Option.bind_eq_some_iff.1 hl
    obtain ⟨r, hr, rfl⟩ := Option.map_eq_some_iff.1 hl
    obtain ⟨h1, h2⟩ := ih hr
    refine ⟨by simp [h1], fun i hi => ?_⟩
    cases i with
    | zero => exact ⟨v, x, hv, hx, rfl⟩
    | succ i =>
      obtain ⟨v', x', h3, h4, h5⟩ := h2 i (by omega)
      exact ⟨v', x', by rw [← h3]; congr 1; omega, h4, by simpa using h5⟩
theorem denRow_of {t : Tr V} (f : Nat → Value) : ∀ (n off : Nat), (∀ i, i < n → ∃ v, t.get (off + i) = some v ∧ denC ρ Φ v = some (f i)) → denRow ρ Φ t off n = some ((List.range n).map f) := by
  intro n
  induction n generalizing f with
  | zero => intro off _; rfl
  | succ n ih =>
    intro off h
    obtain ⟨v, hv, hx⟩ := h 0 (by omega)
    simp only [denRow]
    rw [show off = off + 0 by omega, hv]
    simp only [Option.bind_some]
    rw [hx, show off + 0 + 1 = off + 1 by omega, ih (fun i => f (i + 1)) (off + 1) (fun i hi => by
      obtain ⟨v', h1, h2⟩ := h (i + 1) (by omega)
      exact ⟨v', by rw [← h1]; congr 1; omega, h2⟩)]
    simp [List.range_succ_eq_map, List.map_map, Function.comp_def]

theorem den0_cell {v : V} {x : Value} (h : den0 ρ Φ v = some x) : (∀ cs, x ≠ .agg cs) ∧ ∀ cs, x ≠ .tuple cs := by
  cases v <;> simp only [den0] at h <;> first
    | (cases h; done)
    | (cases h; constructor <;> intro cs e <;> cases e; done)
    | (obtain ⟨L, _, rfl⟩ := Option.map_eq_some_iff.1 h; constructor <;> intro cs e <;> cases e; done)
    | skip
  case sl j off len c =>
    cases c <;> simp only [den0] at h <;> obtain ⟨L, _, rfl⟩ := Option.map_eq_some_iff.1 h <;> constructor <;> intro cs e <;> cases e
  case se j off l =>
    obtain ⟨L, _, rfl⟩ := Option.map_eq_some_iff.1 h
    split <;> constructor <;> intro cs e <;> cases e
  case z k => cases h; exact ρ.hz k
theorem denC_cell {v : V} {x : Value} (h : denC ρ Φ v = some x) : (∀ cs, x ≠ .agg cs) ∧ ∀ cs, x ≠ .tuple cs := by
  cases v <;> simp only [denC] at h <;> first | exact den0_cell h | skip
  obtain ⟨g, _, h⟩ := Option.bind_eq_some_iff.1 h
  obtain ⟨a, _, h⟩ := Option.bind_eq_some_iff.1 h
  obtain ⟨c, _, rfl⟩ := Option.map_eq_some_iff.1 h
  constructor <;> intro cs e <;> cases e
theorem cells_of_cell {x : Value} (h : (∀ cs, x ≠ .agg cs)) : x.cells = #[x] := by
  cases x <;> first | rfl | exact absurd rfl (h _)
theorem den_cell {v : V} {x : Value} (hc : isCell v = true) (h : den ρ Φ v = some x) : denC ρ Φ v = some x := by
  cases v <;> first | exact h | (simp [isCell] at hc)
end

/-! Heaps. -/
/-- Two lists, entry by entry. -/
inductive Two {α β : Type} (R : α → β → Prop) : List α → List β → Prop
  | nil : Two R [] []
  | cons {x : α} {y : β} {l : List α} {r : List β} (h : R x y) (t : Two R l r) : Two R (x :: l) (y :: r)
/-- What a block holds. -/
noncomputable def CellsR (ρ : Sym) (Φ : Env) (L : Loc) (base : Nat) (ro : Bool) (n sz : Nat) (t : Tr V) (w : World) : Prop :=
  L.sz = sz ∧ n ≤ L.K * L.sz ∧ (ro = false → base ≤ L.blk) ∧ ∃ cs e fz, w.heap[L.blk]? = some (.cells cs e fz) ∧ (ro = false → fz = (0, 0)) ∧ L.d + L.K * L.sz ≤ cs.size ∧
    ∀ i, i < n → ∃ v x, t.get i = some v ∧ denC ρ Φ v = some x ∧ cs[L.d + i]? = some x
noncomputable def EntR (ρ : Sym) (Φ : Env) (e : V × V × Nat) (e' : MapEntry) : Prop := denA ρ Φ e.1 = some e'.key ∧ denA ρ Φ e.2.1 = some e'.val ∧ e.2.2 = e'.born
/-- What slots hold. -/
noncomputable def SlotsR (ρ : Sym) (Φ : Env) (t : Tr V) (a : Array Value) : Prop := ∀ s v, t.get s = some v → ∃ x, a[s]? = some x ∧ den ρ Φ v = some x
noncomputable def okJump : Option Code → Prop
  | none => True
  | some c => c = .ret ∨ (∃ id, c = .exit id) ∨ ∃ l, c = .goto l
noncomputable def ObjR (odd : List (Nat × Nat)) (ρ : Sym) (Φ : Env) (L : Loc) (base : Nat) (o : O) (w : World) : Prop := match o with
  | .dead => True
  | .cells ro n sz t => CellsR ρ Φ L base ro n sz t w
  | .map es c => base ≤ L.blk ∧ ∃ es', w.heap[L.blk]? = some (.map es' c) ∧ Two (EntR ρ Φ) es es'.toList
  | .iter m since seen st => base ≤ L.blk ∧ L.d = 0 ∧ ∃ m', w.heap[L.blk]? = some (.mapIter m' since seen.toArray st) ∧ (match m with
    | none => m' = none
    | some j => ∃ M, Φ j = some M ∧ m' = some M.blk)
  | .loop st pd t ps asg body dfr => base ≤ L.blk ∧ okJump pd ∧ ∃ fn tmps D, Φ dfr = some D ∧
      w.heap[L.blk]? = some (.loop { state := st, pending := pd, fn, tmps, params := ps, assign := asg, body, defers := D.blk }) ∧ SlotsR ρ Φ t tmps ∧
      codeOk odd tmps.size asg = true ∧ codeOk odd tmps.size body = true ∧ ps.toList.all (fun d => Nat.blt d tmps.size) = true
  | .defs c => base ≤ L.blk ∧ w.heap[L.blk]? = some (.deferred (if c then none else some []))
noncomputable def live : Option O → Bool
  | none => false
  | some .dead => false
  | _ => true
structure HR (odd : List (Nat × Nat)) (ρ : Sym) (Φ : Env) (base : Nat) (h : H) (w : World) : Prop where
  bs : base ≤ w.heap.size
  lt : ∀ j L, Φ j = some L → j < h.n ∧ L.blk < w.heap.size
  obj : ∀ j L o, Φ j = some L → h.t.get j = some o → ObjR odd ρ Φ L base o w
  one : ∀ j j' L L', Φ j = some L → Φ j' = some L' → live (h.t.get j) = true → live (h.t.get j') = true → L.blk = L'.blk → j = j'
/-- What was there ahead of all is as it was. -/
structure Fr (base : Nat) (w w' : World) : Prop where
  size : w.heap.size ≤ w'.heap.size
  old : ∀ b, b < base → w'.heap[b]? = w.heap[b]?
  frz : ∀ a, w'.frozen? a = w.frozen? a
  os : w'.os = w.os
  out : w'.output = w.output
theorem Fr.refl (base : Nat) (w : World) : Fr base w w := ⟨Nat.le_refl _, fun _ _ => rfl, fun _ => rfl, rfl, rfl⟩
theorem Fr.trans {base : Nat} {w w' w'' : World} (h : Fr base w w') (h' : Fr base w' w'') : Fr base w w'' :=
  ⟨Nat.le_trans h.size h'.size, fun b hb => (h'.old b hb).trans (h.old b hb), fun a => (h'.frz a).trans (h.frz a), h'.os.trans h.os, h'.out.trans h.out⟩
/-- An object of which nothing is frozen. -/
def Soft (o : Obj) : Prop := ∀ c t f, o = .cells c t f → f = (0, 0)
theorem Soft.frozen {w : World} {b : Nat} {o : Obj} (hs : Soft o) (hb : w.heap[b]? = some o) {a : Addr} (ha : a.block = b) : w.frozen? a = false := by
  unfold World.frozen?
  rw [ha, hb]
  cases o with
  | cells c t f => cases hs c t f rfl; simp
  | _ => rfl
/-- One block is another one's place; both are soft. -/
theorem frz_swap {w w' : World} {g : Nat} {o o' : Obj} (hw : ∀ b, b ≠ g → w'.heap[b]? = w.heap[b]?) (h1 : w.heap[g]? = some o) (h2 : w'.heap[g]? = some o') (s1 : Soft o) (s2 : Soft o') (a : Addr) : w'.frozen? a = w.frozen? a := by
  by_cases ha : a.block = g
  · rw [s1.frozen h1 ha, s2.frozen h2 ha]
  · unfold World.frozen?
    rw [hw _ ha]
theorem soft_cells (c : Array Value) (t : TypeId) : Soft (.cells c t (0, 0)) := fun _ _ _ e => by cases e; rfl
end Go.Proofs.YtolheapnopmhgaaGreatDoor
