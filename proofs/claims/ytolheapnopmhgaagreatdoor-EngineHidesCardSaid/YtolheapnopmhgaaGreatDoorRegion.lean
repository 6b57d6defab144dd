/- A region that draws its order may be walked in the order of the text, where operations that no edge orders are apart and one of each two is no matter of the world, or both only read. -/
import Derived.WalkKit
import Derived.Orders
set_option linter.all false
namespace Go.Proofs.YtolheapnopmhgaaGreatDoor
open Go Go.RowKit

/-- Goes well only without the world, and leaves it. -/
def OkStill (P : Program) {α : Type} (s : Sem α) : Prop := ∀ w r w', s.run P w = .ok r w' → w' = w ∧ ∀ w2, s.run P w2 = .ok r w2
/-- Goes well only leaving the world. -/
def OkQuiet (P : Program) {α : Type} (s : Sem α) : Prop := ∀ w r w', s.run P w = .ok r w' → w' = w

section
variable {P : Program} {α β : Type}
theorem OkStill.quiet {s : Sem α} (h : OkStill P s) : OkQuiet P s := fun w r w' hr => (h w r w' hr).1
theorem okStill_pure (a : α) : OkStill P (pure a : Sem α) := fun w r w' h => by
  simp at h; obtain ⟨rfl, rfl⟩ := h; exact ⟨rfl, fun _ => by simp⟩
theorem okStill_purec (a : α) : OkStill P (Sem.pure a) := okStill_pure a
theorem okStill_halt (h : Halt) : OkStill P (.halt h : Sem α) := fun w r w' hr => by simp [Sem.run] at hr
theorem okStill_program : OkStill P program := fun w r w' h => by
  simp at h; obtain ⟨rfl, rfl⟩ := h; exact ⟨rfl, fun _ => by simp⟩
theorem okStill_bind {s : Sem α} {f : α → Sem β} (hs : OkStill P s) (hf : ∀ a, OkStill P (f a)) : OkStill P (s >>= f) := fun w r w' h => by
  rw [Sem.run_bind] at h
  cases hr : s.run P w with
  | ok a w1 =>
    rw [hr] at h
    obtain ⟨rfl, h2⟩ := hs w a w1 hr
    obtain ⟨rfl, h3⟩ := hf a _ r w' (by simpa using h)
    exact ⟨rfl, fun w2 => by rw [Sem.run_bind, h2 w2]; simpa using h3 w2⟩
  | halt x w1 => rw [hr] at h; simp [Result.andThen] at h
theorem okQuiet_bind {s : Sem α} {f : α → Sem β} (hs : OkQuiet P s) (hf : ∀ a, OkQuiet P (f a)) : OkQuiet P (s >>= f) := fun w r w' h => by
  rw [Sem.run_bind] at h
  cases hr : s.run P w with
  | ok a w1 =>
    rw [hr] at h
    have e1 := hs w a w1 hr
    subst e1
    exact hf a _ r w' (by simpa using h)
  | halt x w1 => rw [hr] at h; simp [Result.andThen] at h
theorem okQuiet_load (m : Mode) (a : Addr) (k : Value → Sem α) (hk : ∀ v, OkQuiet P (k v)) : OkQuiet P (.load m a k) := fun w r w' h => by
  simp only [Sem.run] at h
  split at h
  · exact hk _ _ _ _ h
  · split at h
    · exact hk _ _ _ _ h
    · cases h

theorem okStill_underlying (t : TypeId) : OkStill P (underlying t) := by
  unfold underlying
  refine okStill_bind okStill_program fun p => ?_
  split
  · exact okStill_pure _
  · exact okStill_halt _
theorem okStill_typeInfo (t : TypeId) : OkStill P (typeInfo t) := by
  unfold typeInfo
  refine okStill_bind okStill_program fun p => ?_
  split
  · exact okStill_pure _
  · exact okStill_halt _
theorem okStill_sizeOf (t : TypeId) : OkStill P (sizeOf t) := okStill_bind (okStill_typeInfo t) fun _ => okStill_pure _
theorem okStill_isAgg (t : TypeId) : OkStill P (isAgg t) := by
  unfold isAgg
  refine okStill_bind (okStill_underlying t) fun d => ?_
  split <;> exact okStill_pure _
theorem okStill_asIntOf (v : Value) : OkStill P (asIntOf v) := by
  unfold asIntOf
  split
  · exact okStill_pure _
  · exact okStill_halt _
  · exact okStill_halt _
theorem okStill_asBool (v : Value) : OkStill P (asBool v) := by
  unfold asBool
  split
  · exact okStill_pure _
  · exact okStill_halt _
theorem okStill_asAgg (v : Value) : OkStill P (asAgg v) := by
  unfold asAgg
  split
  · exact okStill_pure _
  · exact okStill_halt _
theorem okStill_sureAddr (v : Value) : OkStill P (Instr.sureAddr v) := by
  unfold Instr.sureAddr
  split
  · exact okStill_pure _
  · exact okStill_halt _
/-- A run-time panic is no good end. -/
theorem okStill_never {s : Sem α} (h : ∀ w r w', s.run P w ≠ .ok r w') : OkStill P s := fun w r w' hr => absurd hr (h w r w')
theorem never_bind {s : Sem α} {f : α → Sem β} (h : ∀ a w r w', (f a).run P w ≠ .ok r w') : ∀ w r w', (s >>= f).run P w ≠ .ok r w' := fun w r w' hr => by
  rw [Sem.run_bind] at hr
  cases h1 : s.run P w with
  | ok a w1 => rw [h1] at hr; exact h a w1 r w' (by simpa using hr)
  | halt x w1 => rw [h1] at hr; simp [Result.andThen] at hr
theorem never_halt (h : Halt) : ∀ w r w', (Sem.halt h : Sem α).run P w ≠ .ok r w' := fun w r w' hr => by simp [Sem.run] at hr
theorem never_runtimePanic (e : RuntimeError) : ∀ w r w', (runtimePanic e : Sem α).run P w ≠ .ok r w' := by
  unfold runtimePanic
  refine never_bind fun p => ?_
  cases e <;> dsimp only
  case typeAssertion => exact never_bind fun _ => never_bind fun _ => never_halt _
  case panicNil => exact never_bind fun _ => never_bind fun _ => never_halt _
  all_goals exact never_halt _
theorem never_boundsPanic (k : IntKind) (x y : Int) (code : BoundsCode) : ∀ w r w', (boundsPanic k x y code : Sem α).run P w ≠ .ok r w' := by
  unfold boundsPanic
  dsimp only
  split <;> exact never_bind fun _ => never_runtimePanic _

theorem okStill_ite {c : Prop} [Decidable c] {s t : Sem α} (hs : OkStill P s) (ht : OkStill P t) : OkStill P (if c then s else t) := by
  split
  · exact hs
  · exact ht

theorem okStill_extract (v : Value) (i : Nat) : OkStill P (Instr.extract v i) := by
  unfold Instr.extract
  split
  · split
    · exact okStill_pure _
    · exact okStill_halt _
  · exact okStill_halt _
theorem okStill_part (t : TypeId) (cs : Array Value) (off : Nat) : OkStill P (part t cs off) := by
  unfold part
  refine okStill_bind (okStill_isAgg t) fun b => okStill_ite (okStill_bind (okStill_sizeOf t) fun _ => okStill_pure _) ?_
  split
  · exact okStill_pure _
  · exact okStill_halt _
theorem okStill_field (t : TypeId) (x : Value) (i : Nat) : OkStill P (Instr.field t x i) := by
  unfold Instr.field
  refine okStill_bind (okStill_underlying t) fun d => ?_
  split
  · split
    · exact okStill_bind (okStill_asAgg x) fun _ => okStill_part _ _ _
    · exact okStill_halt _
  · exact okStill_halt _
theorem okStill_indexAt (t : TypeId) (x i : Value) : OkStill P (Instr.indexAt t x i) := by
  unfold Instr.indexAt
  refine okStill_bind (okStill_asIntOf i) fun ki => ?_
  refine okStill_bind (okStill_underlying t) fun d => ?_
  extract_lets J
  have hJ : ∀ x, OkStill P (J x) := by
    rintro ⟨base, len, elem⟩
    refine okStill_bind (okStill_underlying t) fun d => ?_
    dsimp only
    split
    · refine okStill_ite (okStill_bind (okStill_sizeOf _) fun _ => okStill_pure _) (okStill_ite (okStill_halt _) (okStill_never (never_boundsPanic _ _ _ _)))
    · exact okStill_never (never_boundsPanic _ _ _ _)
  split
  · exact okStill_bind (okStill_sureAddr x) fun _ => okStill_bind (okStill_pure _) fun _ => hJ _
  · exact okStill_bind (okStill_pure _) fun _ => hJ _
  · exact okStill_bind (okStill_halt _) fun _ => hJ _
theorem okStill_sliceBound (x : Value) (y : Nat) (c : BoundsCode) : OkStill P (Instr.sliceBound x y c) := by
  unfold Instr.sliceBound
  exact okStill_bind (okStill_asIntOf x) fun ki => okStill_ite (okStill_pure _) (okStill_never (never_boundsPanic _ _ _ _))
theorem okStill_sliceBounds (b : Bool) (len cap : Nat) (lo hi mx : Option Value) : OkStill P (Instr.sliceBounds b len cap lo hi mx) := by
  unfold Instr.sliceBounds
  extract_lets J1
  have hJ1 : ∀ x, OkStill P (J1 x) := fun m => by
    dsimp only [J1]
    split
    · refine okStill_bind (okStill_sliceBound _ _ _) fun h => ?_
      split
      · exact okStill_bind (okStill_sliceBound _ _ _) fun _ => okStill_pure _
      · exact okStill_bind (okStill_pure _) fun _ => okStill_pure _
    · refine okStill_bind (okStill_sliceBound _ _ _) fun h => ?_
      split
      · exact okStill_bind (okStill_sliceBound _ _ _) fun _ => okStill_pure _
      · exact okStill_bind (okStill_pure _) fun _ => okStill_pure _
    · refine okStill_bind (okStill_pure _) fun h => ?_
      split
      · exact okStill_bind (okStill_sliceBound _ _ _) fun _ => okStill_pure _
      · exact okStill_bind (okStill_pure _) fun _ => okStill_pure _
    · refine okStill_bind (okStill_halt _) fun h => ?_
      split
      · exact okStill_bind (okStill_sliceBound _ _ _) fun _ => okStill_pure _
      · exact okStill_bind (okStill_pure _) fun _ => okStill_pure _
  split
  · exact okStill_bind (okStill_sliceBound _ _ _) hJ1
  · exact okStill_bind (okStill_pure _) hJ1
theorem okStill_asAddr (v : Value) : OkStill P (asAddr v) := by
  unfold asAddr
  split
  · exact okStill_pure _
  · exact okStill_never (never_runtimePanic _)
  · exact okStill_halt _
theorem okStill_slice (t : TypeId) (x : Value) (lo hi mx : Option Value) : OkStill P (Instr.slice t x lo hi mx) := by
  unfold Instr.slice
  refine okStill_bind (okStill_underlying t) fun d => ?_
  split
  · extract_lets J
    have hJ : ∀ x, OkStill P (J x) := fun _ => okStill_bind (okStill_sliceBounds _ _ _ _ _ _) fun _ => okStill_pure _
    split
    · exact okStill_bind (okStill_halt _) hJ
    · exact hJ ()
  · exact okStill_bind (okStill_sliceBounds _ _ _ _ _ _) fun _ => okStill_bind (okStill_sizeOf _) fun _ => okStill_pure _
  · refine okStill_bind (okStill_asAddr _) fun _ => okStill_bind (okStill_underlying _) fun _ => ?_
    split
    · exact okStill_bind (okStill_sliceBounds _ _ _ _ _ _) fun _ => okStill_bind (okStill_sizeOf _) fun _ => okStill_pure _
    · exact okStill_halt _
  · exact okStill_halt _
theorem okStill_sliceAt (t : TypeId) (x : Value) (lo hi mx : Option Value) : OkStill P (Instr.sliceAt t x lo hi mx) := by
  unfold Instr.sliceAt
  refine okStill_bind (okStill_underlying t) fun d => ?_
  split
  · exact okStill_bind (okStill_sureAddr _) fun _ => okStill_bind (okStill_sliceBounds _ _ _ _ _ _) fun _ => okStill_bind (okStill_sizeOf _) fun _ => okStill_pure _
  · exact okStill_slice _ _ _ _ _

theorem okStill_followBlind : ∀ (l : List FieldStep) (t : TypeId) (x : Option Value), OkStill P (followBlind l t x)
  | [], t, x => okStill_pure _
  | s :: rest, t, x => by
    unfold followBlind
    refine okStill_bind (okStill_underlying _) fun d => ?_
    split
    · split
      · split
        · exact okStill_pure _
        · exact okStill_followBlind rest _ _
        · exact okStill_halt _
        · exact okStill_pure _
        · exact okStill_bind (okStill_part _ _ _) fun _ => okStill_followBlind rest _ _
        · exact okStill_halt _
        · exact okStill_followBlind rest _ _
      · exact okStill_halt _
    · exact okStill_halt _
theorem okStill_nilAhead : ∀ (n : Nat) (t : TypeId) (v : Value) (name : String), OkStill P (nilAhead n t v name)
  | 0, _, _, _ => okStill_pure _
  | n + 1, t, v, name => by
    unfold nilAhead
    refine okStill_bind (okStill_typeInfo _) fun i => ?_
    split
    · refine okStill_bind (okStill_followBlind _ _ _) fun r => ?_
      split
      · exact okStill_pure _
      · split
        · exact okStill_nilAhead n _ _ _
        · exact okStill_pure _
        · exact okStill_halt _
        · exact okStill_pure _
        · exact okStill_pure _
        · refine okStill_bind (okStill_underlying _) fun d => ?_
          split <;> exact okStill_pure _
    · exact okStill_halt _

/-- Is a field one that takes room? -/
def fieldOk (P : Program) (s : TypeId) (f : Nat) : Bool :=
  match P.underlying s with
  | some (.struct fs) => match fs[f]? with
    | some fd => match P.info? fd.type with
      | some i => i.size != 0
      | none => false
    | none => false
  | _ => false

theorem okStill_fieldAt (s : TypeId) (x : Value) (f : Nat) (h : fieldOk P s f = true) : OkStill P (Instr.fieldAt s x f) := by
  unfold fieldOk at h
  split at h
  · rename_i fs hu
    split at h
    · rename_i fd hf
      split at h
      · rename_i i hi
        have h0 : i.size ≠ 0 := by simpa using h
        intro w r w' hr
        unfold Instr.fieldAt at hr ⊢
        have hsz : ∀ w, (sizeOf fd.type).run P w = .ok i.size w := fun w => by simp [sizeOf, typeInfo, hi]
        cases x with
        | pointer a =>
          cases a with
          | none => simp [run_underlying hu, hf, Instr.sureAddr] at hr
          | some a =>
            have h0' : ¬ i.size = 0 := h0
            simp [run_underlying hu, hf, Instr.sureAddr, fieldPlace, hsz, h0'] at hr ⊢
            exact ⟨hr.2.symm, hr.1⟩
        | _ => simp [run_underlying hu, hf, Instr.sureAddr] at hr
      · cases h
    · cases h
  · cases h

/-- Is a call that of the built-in len? -/
def isLen (c : Call) : Bool := match c.callee with
  | .builtin .len => true
  | _ => false

/-- The class of an operation: 2: no matter of the world; 1: it reads; 3: it makes a block; 0: any other. -/
def clsOf (FO : TypeId → Nat → Bool) (o : Oper) : Nat :=
  match o.op with
  | .move _ | .assign _ | .pick .. | .extract .. | .indexAddr .. | .index .. | .build .. | .slice .. | .field .. | .makeFunc .. | .nilCheck _ => 2
  | .fieldAddr s _ f => if FO s f then 2 else 0
  | .load .. => 1
  | .call c => if isLen c then 1 else 0
  | .alloc _ | .box .. | .buildSlice .. => 3
  | _ => 0

theorem okStill_index (t : TypeId) (x i : Value) : OkStill P (Instr.index t x i) := by
  unfold Instr.index
  refine okStill_bind (okStill_asIntOf i) fun ki => okStill_bind (okStill_underlying t) fun d => ?_
  split
  · exact okStill_ite (okStill_bind (okStill_sizeOf _) fun _ => okStill_part _ _ _) (okStill_never (never_boundsPanic _ _ _ _))
  · split
    · exact okStill_pure _
    · exact okStill_never (never_boundsPanic _ _ _ _)
  · exact okStill_halt _
theorem okStill_zeroValue (t : TypeId) : OkStill P (zeroValue t) := by
  unfold zeroValue
  refine okStill_bind (okStill_typeInfo t) fun i => ?_
  split
  · exact okStill_pure _
  · exact okStill_halt _
theorem okStill_mapM {γ δ : Type} (f : γ → Sem δ) (hf : ∀ x, OkStill P (f x)) (l : Array γ) : OkStill P (l.mapM f) := by
  rw [Array.mapM_eq_mapM_toList]
  refine okStill_bind (s := List.mapM f l.toList) ?_ fun _ => okStill_pure _
  generalize l.toList = l
  induction l with
  | nil => exact okStill_pure _
  | cons x l ih =>
    rw [List.mapM_cons]
    exact okStill_bind (hf x) fun _ => okStill_bind ih fun _ => okStill_pure _
theorem okStill_build (t : TypeId) (ps : Array (Nat × Value)) : OkStill P (Instr.build t ps) := by
  unfold Instr.build
  refine okStill_bind (okStill_zeroValue t) fun z => okStill_bind (okStill_underlying t) fun d => ?_
  split
  · refine okStill_bind (okStill_mapM _ (fun _ => okStill_bind (okStill_sizeOf _) fun _ => okStill_pure _) _) fun pl => ?_
    split
    · exact okStill_pure _
    · exact okStill_halt _
  · refine okStill_bind (okStill_sizeOf _) fun n => ?_
    split
    · exact okStill_pure _
    · exact okStill_halt _
  · exact okStill_halt _

/-- It yields a value alone, and that is no matter of the world. -/
def NextStill (P : Program) (s : Sem Next) : Prop := ∀ w r w', s.run P w = .ok r w' → ∃ v, r = .value v ∧ w' = w ∧ ∀ w2, s.run P w2 = .ok (.value v) w2
def NextQuiet (P : Program) (s : Sem Next) : Prop := ∀ w r w', s.run P w = .ok r w' → ∃ v, r = .value v ∧ w' = w
theorem NextStill.quiet {s : Sem Next} (h : NextStill P s) : NextQuiet P s := fun w r w' hr => let ⟨v, h1, h2, _⟩ := h w r w' hr; ⟨v, h1, h2⟩
theorem nextStill_pure (v : Value) : NextStill P (pure (.value v)) := fun w r w' hr => by
  simp at hr; obtain ⟨rfl, rfl⟩ := hr; exact ⟨v, rfl, rfl, fun _ => by simp⟩
theorem nextStill_never {s : Sem Next} (h : ∀ w r w', s.run P w ≠ .ok r w') : NextStill P s := fun w r w' hr => absurd hr (h w r w')
theorem nextStill_bind {s : Sem α} {f : α → Sem Next} (hs : OkStill P s) (hf : ∀ a, NextStill P (f a)) : NextStill P (s >>= f) := fun w r w' h => by
  rw [Sem.run_bind] at h
  cases hr : s.run P w with
  | ok a w1 =>
    rw [hr] at h
    obtain ⟨rfl, h2⟩ := hs w a w1 hr
    obtain ⟨v, h1, rfl, h3⟩ := hf a _ r w' (by simpa using h)
    exact ⟨v, h1, rfl, fun w2 => by rw [Sem.run_bind, h2 w2]; simpa using h3 w2⟩
  | halt x w1 => rw [hr] at h; simp [Result.andThen] at h
theorem nextQuiet_bind {s : Sem α} {f : α → Sem Next} (hs : OkQuiet P s) (hf : ∀ a, NextQuiet P (f a)) : NextQuiet P (s >>= f) := fun w r w' h => by
  rw [Sem.run_bind] at h
  cases hr : s.run P w with
  | ok a w1 =>
    rw [hr] at h
    have e1 := hs w a w1 hr
    subst e1
    exact hf a _ r w' (by simpa using h)
  | halt x w1 => rw [hr] at h; simp [Result.andThen] at h

theorem still_of_cls {FO : TypeId → Nat → Bool} (hFO : ∀ s f, FO s f = true → fieldOk P s f = true) {o : Oper} (hc : clsOf FO o = 2) (e : Operand → Value) : NextStill P (execOp e o) := by
  obtain ⟨dst, op, type, pos, after, guard⟩ := o
  cases op <;> simp only [clsOf] at hc <;> simp only [execOp]
  case move x => exact nextStill_pure _
  case assign x => exact nextStill_pure _
  case pick c a b => exact nextStill_bind (okStill_asBool _) fun _ => nextStill_pure _
  case nilCheck x =>
    split
    · exact nextStill_never (never_runtimePanic _)
    · exact nextStill_never (never_runtimePanic _)
    · exact nextStill_never (never_runtimePanic _)
    · split
      · exact nextStill_never (never_runtimePanic _)
      · refine nextStill_bind okStill_program fun _ => nextStill_bind (okStill_nilAhead _ _ _ _) fun _ => ?_
        extract_lets
        split
        · exact nextStill_bind (okStill_halt _) fun _ => nextStill_pure _
        · exact nextStill_pure _
      · exact nextStill_pure _
    · exact nextStill_pure _
  case fieldAddr s x f =>
    split at hc
    · rename_i h; exact nextStill_bind (okStill_fieldAt _ _ _ (hFO _ _ h)) fun _ => nextStill_pure _
    · cases hc
  case makeFunc => exact nextStill_bind (okStill_pure _) fun _ => nextStill_pure _
  case slice => exact nextStill_bind (okStill_sliceAt _ _ _ _ _) fun _ => nextStill_pure _
  case field => exact nextStill_bind (okStill_field _ _ _) fun _ => nextStill_pure _
  case indexAddr => exact nextStill_bind (okStill_indexAt _ _ _) fun _ => nextStill_pure _
  case index => exact nextStill_bind (okStill_index _ _ _) fun _ => nextStill_pure _
  case build => exact nextStill_bind (okStill_build _ _) fun _ => nextStill_pure _
  case extract => exact nextStill_bind (okStill_extract _ _) fun _ => nextStill_pure _
  case call c =>
    split at hc <;> simp at hc
  all_goals simp at hc

theorem okQuiet_loadFrom (a : Addr) : ∀ (n i : Nat) (acc : Array Value), OkQuiet P (loadCellsFrom a i n acc)
  | 0, _, _ => (okStill_pure _).quiet
  | n + 1, i, acc => okQuiet_bind (okQuiet_load _ _ _ fun _ => (okStill_pure _).quiet) fun _ => okQuiet_loadFrom a n (i + 1) _
theorem okQuiet_loadCells (a : Addr) (n : Nat) : OkQuiet P (loadCells a n) := okQuiet_loadFrom a n 0 _
theorem okQuiet_loadVar (t : TypeId) (a : Addr) : OkQuiet P (loadVar t a) := by
  unfold loadVar
  refine okQuiet_bind (okStill_isAgg t).quiet fun b => ?_
  split
  · exact okQuiet_bind (okStill_sizeOf t).quiet fun _ => okQuiet_bind (okQuiet_loadCells _ _) fun _ => (okStill_pure _).quiet
  · exact okQuiet_load _ _ _ fun _ => (okStill_pure _).quiet
theorem okQuiet_getObj (r : Nat) (k : Obj → Sem α) (hk : ∀ o, OkQuiet P (k o)) : OkQuiet P (.getObj r k) := fun w r w' h => by
  simp only [Sem.run] at h
  split at h
  · cases h
  · exact hk _ _ _ _ h
  · cases h
theorem okQuiet_len (t : Array TypeId) (ty : TypeId) (xs : Array Value) : OkQuiet P (Builtin.len_ t ty xs) := by
  unfold Builtin.len_
  split
  · refine okQuiet_bind (okStill_underlying _).quiet fun d => ?_
    split
    · exact (okStill_pure _).quiet
    · exact (okStill_pure _).quiet
    · refine okQuiet_bind (okStill_underlying _).quiet fun d => ?_
      split
      · exact (okStill_pure _).quiet
      · exact (okStill_halt _).quiet
    · exact (okStill_pure _).quiet
    · exact (okStill_pure _).quiet
    · exact (okStill_pure _).quiet
    · refine okQuiet_bind (okQuiet_getObj _ _ fun _ => (okStill_pure _).quiet) fun o => ?_
      split
      · exact (okStill_pure _).quiet
      · exact (okStill_halt _).quiet
    · refine okQuiet_bind (okQuiet_getObj _ _ fun _ => (okStill_pure _).quiet) fun o => ?_
      split
      · exact (okStill_pure _).quiet
      · exact (okStill_halt _).quiet
    · exact (okStill_halt _).quiet
  · exact (okStill_halt _).quiet

theorem quiet_of_cls {FO : TypeId → Nat → Bool} (hFO : ∀ s f, FO s f = true → fieldOk P s f = true) {o : Oper} (hc : clsOf FO o = 1 ∨ clsOf FO o = 2) (e : Operand → Value) : NextQuiet P (execOp e o) := by
  by_cases h2 : clsOf FO o = 2
  · exact (still_of_cls hFO h2 e).quiet
  · obtain ⟨dst, op, type, pos, after, guard⟩ := o
    replace hc := hc.resolve_right h2
    cases op <;> simp only [clsOf] at hc h2 <;> simp only [execOp]
    case load t a => exact nextQuiet_bind (okQuiet_bind (okStill_sureAddr _).quiet fun _ => okQuiet_loadVar _ _) fun _ => (nextStill_pure _).quiet
    case fieldAddr s x f =>
      split at hc
      · rename_i h; simp [h] at h2
      · simp at hc
    case call c =>
      split at hc
      · rename_i hl
        unfold isLen at hl
        split at hl
        · rename_i hcal
          simp only [resolve, hcal]
          change NextQuiet P (do pure (Next.value (← Builtin.len_ c.argTypes type (c.args.map e))))
          exact nextQuiet_bind (okQuiet_len _ _ _) fun _ => (nextStill_pure _).quiet
        · cases hl
      · simp at hc
    all_goals (first | (simp at hc; done) | (simp at h2; done))
end

/-- No end but the good ones is asked for. -/
def Tame (Q : Exit → Act → World → Prop) : Prop := (∀ c a w, ¬ Q (.panic c) a w) ∧ ∀ a w, ¬ Q .outgrown a w
theorem Tame.then_ {K : Act → World → Prop} {Q : Exit → Act → World → Prop} (h : Tame Q) : Tame (Exit.then K Q) := h
theorem Tame.inBlock {id : Nat} {Q : Exit → Act → World → Prop} (h : Tame Q) : Tame (Exit.inBlock id Q) := h
theorem tame_body {P : Program} {fn : Func} {R : Ending → World → Prop} (h : ∀ e w, R e w → ∃ v, e = .returned v) : Tame (bodyPost P fn R) :=
  ⟨fun _ _ _ hq => (by obtain ⟨v, hv⟩ := h _ _ hq.2; cases hv), fun _ _ hq => (by obtain ⟨v, hv⟩ := h _ _ hq; cases hv)⟩
theorem Tame.lets {Q : Exit → Act → World → Prop} (h : Tame Q) : ¬ LetsOut Q := fun ⟨a, w, hq⟩ => h.2 a w hq

section
variable {P : Program} {ops : Array Oper} {Q : Exit → Act → World → Prop}

theorem yields_elim {i : Nat} {o : Oper} {v : Value} {a : Act} {w : World} {K : Act → World → Prop} (hQ : Tame Q) (hi : ops[i]? = some o) (hy : Yields P ops o v a) (h : wpOp P ops Q i K a w) : K (a.put o.dst v) w := by
  unfold wpOp at h
  simp only [hi] at h
  rcases hy with ⟨hw, hv⟩ | ⟨hw, rfl⟩
  · simp only [hw, if_true, Oper.wp, hv w, Oper.upon] at h
    rcases h with h | h
    · exact h
    · exact absurd h.2 hQ.lets
  · simpa [hw] using h

/-- At just this world an operation yields a value and leaves it. -/
def RunsAt (P : Program) (ops : Array Oper) (w : World) (o : Oper) (v : Value) (a : Act) : Prop :=
  (Region.wanted o (yielded ops a.tmps) = true ∧ (execOp a.eval o).run P w = .ok (.value v) w) ∨ (Region.wanted o (yielded ops a.tmps) = false ∧ v = undef)

theorem RunsAt.wpOp {i : Nat} {o : Oper} {v : Value} {a : Act} {w : World} (hi : ops[i]? = some o) (hy : RunsAt P ops w o v a) {K : Act → World → Prop} (h : K (a.put o.dst v) w) : wpOp P ops Q i K a w := by
  unfold Go.wpOp
  simp only [hi]
  rcases hy with ⟨hw, hv⟩ | ⟨hw, rfl⟩
  · simp only [hw, if_true, Oper.wp, hv, Oper.upon]; exact .inl h
  · simp only [hw, Bool.false_eq_true, if_false]; exact h
theorem RunsAt.of_same {o : Oper} {v : Value} {a a' : Act} {w : World} (hy : RunsAt P ops w o v a) (he : execOp a'.eval o = execOp a.eval o)
    (hw : Region.wanted o (yielded ops a'.tmps) = Region.wanted o (yielded ops a.tmps)) : RunsAt P ops w o v a' := by
  unfold RunsAt at *
  rw [he, hw]
  exact hy

theorem runs_of {FO : TypeId → Nat → Bool} (hFO : ∀ s f, FO s f = true → fieldOk P s f = true) {i : Nat} {o : Oper} {a : Act} {w : World} {K : Act → World → Prop} (hQ : Tame Q) (hi : ops[i]? = some o) (hc : clsOf FO o = 1 ∨ clsOf FO o = 2) (h : wpOp P ops Q i K a w) :
    ∃ v, RunsAt P ops w o v a ∧ K (a.put o.dst v) w := by
  unfold wpOp at h
  simp only [hi] at h
  by_cases hw : Region.wanted o (yielded ops a.tmps) = true
  · simp only [hw, if_true] at h
    rcases h with h | h
    · unfold Oper.wp at h
      cases hr : (execOp a.eval o).run P w with
      | ok r w1 =>
        obtain ⟨v, rfl, rfl⟩ := quiet_of_cls hFO hc a.eval w r w1 hr
        rw [hr] at h
        exact ⟨v, .inl ⟨hw, hr⟩, h⟩
      | halt x w1 =>
        rw [hr] at h
        cases x <;> simp only [Oper.upon] at h
        exact absurd h (hQ.1 _ _ _)
    · exact absurd h.2 hQ.lets
  · have hw' : Region.wanted o (yielded ops a.tmps) = false := by simpa using hw
    simp only [hw', Bool.false_eq_true, if_false] at h
    exact ⟨undef, .inr ⟨hw', rfl⟩, h⟩

theorem yields_of_runs {FO : TypeId → Nat → Bool} (hFO : ∀ s f, FO s f = true → fieldOk P s f = true) {o : Oper} {a : Act} {w : World} {v : Value} (hc : clsOf FO o = 2) (h : RunsAt P ops w o v a) : Yields P ops o v a := by
  rcases h with ⟨hw, hr⟩ | h
  · obtain ⟨u, hu, _, h2⟩ := still_of_cls hFO hc a.eval w _ _ hr
    cases hu
    exact .inl ⟨hw, h2⟩
  · exact .inr h

/-- What was there is as it was. -/
def Grows (w w' : World) : Prop := ∀ b, b < w.heap.size → w'.heap[b]? = w.heap[b]?
theorem Grows.of_some {w w' : World} (h : Grows w w') {b : Nat} {o : Obj} (hb : w.heap[b]? = some o) : w'.heap[b]? = some o :=
  (h b (Array.getElem?_eq_some_iff.1 hb).1).trans hb
theorem grows_cell {w w' : World} (h : Grows w w') {a : Addr} {v : Value} (hc : w.cell? a = some v) : w'.cell? a = some v :=
  (World.cell?_of_block (h a.block (World.block_lt_of_cell? w a hc))).trans hc
theorem grows_seen {w w' : World} (h : Grows w w') {at_ : Addr} {u : TypeId} {k : Addr} {b : Bool} {r : Array Value × TypeId × (Nat × Nat) × Nat × Value × List (Nat × Nat × List UInt8)} (hr : w.seen P at_ u k b = .ok r) : w'.seen P at_ u k b = .ok r := by
  cases hb : w.heap[at_.block]? with
  | some o =>
    have e : w'.heap[at_.block]? = w.heap[at_.block]? := (h.of_some hb).trans hb.symm
    rw [← hr]
    unfold World.seen
    rw [e]
  | none =>
    exfalso
    unfold World.seen at hr
    rw [hb] at hr
    simp only [bind, Except.bind, pure, Except.pure, throw, throwThe, MonadExceptOf.throw] at hr
    (repeat' split at hr) <;> simp_all
theorem grows_far {w w' : World} (h : Grows w w') {a : Addr} {b : Bool} {r : Value × List Addr} (hr : w.farLoad P a b = .ok r) : w'.farLoad P a b = .ok r := by
  unfold World.farLoad at hr ⊢
  cases hb : w.heap[a.block]? with
  | none => rw [hb] at hr; simp at hr
  | some o =>
    rw [hb] at hr
    rw [h.of_some hb]
    cases o with
    | view at_ u =>
      dsimp only at hr ⊢
      cases hv : w.viewLoad P at_ u a b with
      | error e => rw [hv] at hr; simp at hr
      | ok x =>
        rw [hv] at hr
        have : w'.viewLoad P at_ u a b = .ok x := by
          unfold World.viewLoad at hv ⊢
          cases hs : w.seen P at_ u a b with
          | error e => rw [hs] at hv; simp [bind, Except.bind] at hv
          | ok y => rw [hs] at hv; rw [grows_seen h hs]; exact hv
        rw [this]; exact hr
    | _ => simp at hr
/-- What reads well reads the same when more is there. -/
def OkGrown (P : Program) {α : Type} (s : Sem α) : Prop := ∀ w r w', s.run P w = .ok r w' → ∀ w2, Grows w w2 → s.run P w2 = .ok r w2
theorem OkStill.grown {α : Type} {s : Sem α} (h : OkStill P s) : OkGrown P s := fun w r w' hr w2 _ => (h w r w' hr).2 w2
theorem okGrown_bind {α β : Type} {s : Sem α} {f : α → Sem β} (hq : OkQuiet P s) (hs : OkGrown P s) (hf : ∀ a, OkGrown P (f a)) : OkGrown P (s >>= f) := fun w r w' h w2 hg => by
  rw [Sem.run_bind] at h ⊢
  cases hr : s.run P w with
  | ok a w1 =>
    rw [hr] at h
    have e := hq w a w1 hr
    subst e
    rw [hs w1 a w1 hr w2 hg]
    exact hf a w1 r w' (by simpa using h) w2 hg
  | halt x w1 => rw [hr] at h; simp [Result.andThen] at h
theorem okGrown_load {α : Type} (m : Mode) (a : Addr) (k : Value → Sem α) (hk : ∀ v, OkGrown P (k v)) : OkGrown P (.load m a k) := fun w r w' h w2 hg => by
  simp only [Sem.run] at h ⊢
  cases hc : w.cell? a with
  | some v =>
    rw [hc] at h
    rw [grows_cell hg hc]
    exact hk v w r w' h w2 hg
  | none =>
    rw [hc] at h
    dsimp only at h
    cases hf : w.farLoad P a (m == .atomic) with
    | error e => rw [hf] at h; cases h
    | ok x =>
      rw [hf] at h
      have h2 := grows_far hg hf
      cases hc2 : w2.cell? a with
      | none => dsimp only; rw [h2]; exact hk x.1 w r w' h w2 hg
      | some v =>
        exfalso
        unfold World.farLoad at hf
        split at hf
        · rename_i at_ u hb
          have := hg.of_some hb
          simp [World.cell?, this] at hc2
        · simp at hf
theorem okGrown_getObj {α : Type} (b : Nat) (k : Obj → Sem α) (hk : ∀ o, OkGrown P (k o)) : OkGrown P (.getObj b k) := fun w r w' h w2 hg => by
  simp only [Sem.run] at h ⊢
  cases hb : w.heap[b]? with
  | none => rw [hb] at h; cases h
  | some o =>
    rw [hb] at h
    rw [hg.of_some hb]
    cases o <;> first
      | (cases h; done)
      | exact hk _ w r w' h w2 hg
theorem okGrown_loadFrom (a : Addr) : ∀ (n i : Nat) (acc : Array Value), OkGrown P (loadCellsFrom a i n acc)
  | 0, _, _ => (okStill_pure _).grown
  | n + 1, i, acc => okGrown_bind (okQuiet_load _ _ _ fun _ => (okStill_pure _).quiet) (okGrown_load _ _ _ fun _ => (okStill_pure _).grown) fun _ => okGrown_loadFrom a n (i + 1) _
theorem okGrown_loadVar (t : TypeId) (a : Addr) : OkGrown P (loadVar t a) := by
  unfold loadVar
  refine okGrown_bind (okStill_isAgg t).quiet (okStill_isAgg t).grown fun b => ?_
  split
  · exact okGrown_bind (okStill_sizeOf t).quiet (okStill_sizeOf t).grown fun _ => okGrown_bind (okQuiet_loadCells _ _) (okGrown_loadFrom _ _ _ _) fun _ => (okStill_pure _).grown
  · exact okGrown_load _ _ _ fun _ => (okStill_pure _).grown
theorem okGrown_len (t : Array TypeId) (ty : TypeId) (xs : Array Value) : OkGrown P (Builtin.len_ t ty xs) := by
  unfold Builtin.len_
  split
  · refine okGrown_bind (okStill_underlying _).quiet (okStill_underlying _).grown fun d => ?_
    split
    · exact (okStill_pure _).grown
    · exact (okStill_pure _).grown
    · refine okGrown_bind (okStill_underlying _).quiet (okStill_underlying _).grown fun d => ?_
      split
      · exact (okStill_pure _).grown
      · exact (okStill_halt _).grown
    · exact (okStill_pure _).grown
    · exact (okStill_pure _).grown
    · exact (okStill_pure _).grown
    · refine okGrown_bind (okQuiet_getObj _ _ fun _ => (okStill_pure _).quiet) (okGrown_getObj _ _ fun _ => (okStill_pure _).grown) fun o => ?_
      split
      · exact (okStill_pure _).grown
      · exact (okStill_halt _).grown
    · refine okGrown_bind (okQuiet_getObj _ _ fun _ => (okStill_pure _).quiet) (okGrown_getObj _ _ fun _ => (okStill_pure _).grown) fun o => ?_
      split
      · exact (okStill_pure _).grown
      · exact (okStill_halt _).grown
    · exact (okStill_halt _).grown
  · exact (okStill_halt _).grown
theorem grown_of_cls {FO : TypeId → Nat → Bool} {o : Oper} (hc : clsOf FO o = 1) (e : Operand → Value) : OkGrown P (execOp e o) := by
  obtain ⟨dst, op, type, pos, after, guard⟩ := o
  cases op <;> simp only [clsOf] at hc <;> simp only [execOp]
  case load t a => exact okGrown_bind (okQuiet_bind (okStill_sureAddr _).quiet fun _ => okQuiet_loadVar _ _) (okGrown_bind (okStill_sureAddr _).quiet (okStill_sureAddr _).grown fun _ => okGrown_loadVar _ _) fun _ => (okStill_pure _).grown
  case fieldAddr s x f => split at hc <;> simp at hc
  case call c =>
    split at hc
    · rename_i hl
      unfold isLen at hl
      split at hl
      · rename_i hcal
        simp only [resolve, hcal]
        change OkGrown P (do pure (Next.value (← Builtin.len_ c.argTypes type (c.args.map e))))
        exact okGrown_bind (okQuiet_len _ _ _) (okGrown_len _ _ _) fun _ => (okStill_pure _).grown
      · cases hl
    · simp at hc
  all_goals (simp at hc; done)

/-- It yields a value, and what was there is as it was. -/
def NextGrows (P : Program) (s : Sem Next) : Prop := ∀ w r w', s.run P w = .ok r w' → ∃ v, r = .value v ∧ Grows w w'
theorem nextGrows_bind {α : Type} {s : Sem α} {f : α → Sem Next} (hs : OkQuiet P s) (hf : ∀ a, NextGrows P (f a)) : NextGrows P (s >>= f) := fun w r w' h => by
  rw [Sem.run_bind] at h
  cases hr : s.run P w with
  | ok a w1 =>
    rw [hr] at h
    have e1 := hs w a w1 hr
    subst e1
    exact hf a _ r w' (by simpa using h)
  | halt x w1 => rw [hr] at h; simp [Result.andThen] at h
theorem okStill_bindAssoc {α β γ : Type} (s : Sem α) (f : α → Sem β) (g : β → Sem γ) (w : World) : ((s >>= f) >>= g).run P w = (s >>= fun a => f a >>= g).run P w := by
  simp only [Sem.run_bind]
  cases s.run P w <;> simp [Result.andThen]
theorem grows_alloc (w : World) (o : Obj) : Grows w (w.alloc o) := fun b hb => by
  show (w.heap.push o)[b]? = _
  rw [Array.getElem?_push, if_neg (by omega)]
theorem nextGrows_newRow (e : TypeId) (cs : Array Value) (f : Addr → Value) : NextGrows P (do pure (Next.value (← (do pure (f (← newRow e cs)) : Sem Value)))) := fun w r w' hr => by
  simp [newRow] at hr
  obtain ⟨rfl, rfl⟩ := hr
  exact ⟨_, rfl, grows_alloc w _⟩
def ValGrows (P : Program) {α : Type} (s : Sem α) : Prop := ∀ w r w', s.run P w = .ok r w' → Grows w w'
theorem valGrows_bind {α β : Type} {s : Sem α} {f : α → Sem β} (hs : OkQuiet P s) (hf : ∀ a, ValGrows P (f a)) : ValGrows P (s >>= f) := fun w r w' h => by
  rw [Sem.run_bind] at h
  cases hr : s.run P w with
  | ok a w1 =>
    rw [hr] at h
    have e1 := hs w a w1 hr
    subst e1
    exact hf a _ r w' (by simpa using h)
  | halt x w1 => rw [hr] at h; simp [Result.andThen] at h
theorem valGrows_halt {α : Type} (x : Halt) : ValGrows P (.halt x : Sem α) := fun w r w' h => by simp [Sem.run] at h
theorem nextGrows_val {s : Sem Value} (h : ValGrows P s) : NextGrows P (do pure (Next.value (← s))) := fun w r w' hr => by
  rw [Sem.run_bind] at hr
  cases h1 : s.run P w with
  | ok a w1 =>
    rw [h1] at hr
    simp at hr
    obtain ⟨rfl, rfl⟩ := hr
    exact ⟨a, rfl, h w a _ h1⟩
  | halt x w1 => rw [h1] at hr; simp [Result.andThen] at hr
theorem valGrows_newRow (e : TypeId) (cs : Array Value) (f : Addr → Value) : ValGrows P (do pure (f (← newRow e cs)) : Sem Value) := fun w r w' hr => by
  simp [newRow] at hr
  obtain ⟨rfl, rfl⟩ := hr
  exact grows_alloc w _
theorem valGrows_buildSlice (t : TypeId) (n : Nat) (ps : Array (Nat × Value)) : ValGrows P (Instr.buildSlice t n ps) := by
  unfold Instr.buildSlice
  refine valGrows_bind (okStill_underlying _).quiet fun d => ?_
  split
  · refine valGrows_bind (okStill_sizeOf _).quiet fun size => ?_
    extract_lets J J2
    have hJ : ∀ x, ValGrows P (J x) := fun _ => by
      dsimp only [J]
      split
      · exact valGrows_newRow _ _ _
      · exact valGrows_halt _
    have hJ2 : ∀ x, ValGrows P (J2 x) := fun _ => by
      dsimp only [J2]
      split
      · exact valGrows_bind (okStill_pure _).quiet hJ
      · refine valGrows_bind (okStill_zeroValue _).quiet fun _ => valGrows_bind (okStill_pure _).quiet hJ
    split
    · exact valGrows_bind (okStill_halt _).quiet hJ2
    · exact hJ2 ()
  · exact valGrows_halt _
theorem grows_of_cls {FO : TypeId → Nat → Bool} {o : Oper} (hc : clsOf FO o = 3) (e : Operand → Value) : NextGrows P (execOp e o) := by
  obtain ⟨dst, op, type, pos, after, guard⟩ := o
  cases op <;> simp only [clsOf] at hc <;> simp only [execOp]
  case box t x => exact nextGrows_newRow _ _ _
  case alloc t =>
    intro w r w' hr
    rw [Sem.run_bind] at hr
    unfold Instr.alloc at hr
    rw [Sem.run_bind] at hr
    cases hz : (zeroValue t).run P w with
    | ok z w1 =>
      obtain ⟨rfl, _⟩ := okStill_zeroValue t w z w1 hz
      rw [hz] at hr
      simp [newVar, newRow] at hr
      obtain ⟨rfl, rfl⟩ := hr
      exact ⟨_, rfl, grows_alloc _ _⟩
    | halt x w1 => rw [hz] at hr; simp [Result.andThen] at hr
  case buildSlice t n ps => exact nextGrows_val (valGrows_buildSlice _ _ _)
  case fieldAddr s x f => split at hc <;> simp at hc
  case call c => split at hc <;> simp at hc
  all_goals (simp at hc; done)

theorem RunsAt.grown {FO : TypeId → Nat → Bool} {o : Oper} {v : Value} {a : Act} {w w1 : World} (hc : clsOf FO o = 1) (hy : RunsAt P ops w o v a) (hg : Grows w w1) : RunsAt P ops w1 o v a := by
  rcases hy with ⟨hw, hr⟩ | h
  · exact .inl ⟨hw, grown_of_cls hc a.eval w _ _ hr w1 hg⟩
  · exact .inr h

/-- An operation that makes a block. -/
theorem grow_of {FO : TypeId → Nat → Bool} {i : Nat} {o : Oper} {a : Act} {w : World} {K : Act → World → Prop} (hQ : Tame Q) (hi : ops[i]? = some o) (hc : clsOf FO o = 3) (h : wpOp P ops Q i K a w) :
    ∃ v w1, Grows w w1 ∧ K (a.put o.dst v) w1 ∧ ∀ a' (K' : Act → World → Prop), execOp a'.eval o = execOp a.eval o → Region.wanted o (yielded ops a'.tmps) = Region.wanted o (yielded ops a.tmps) → K' (a'.put o.dst v) w1 → wpOp P ops Q i K' a' w := by
  unfold wpOp at h
  simp only [hi] at h
  by_cases hw : Region.wanted o (yielded ops a.tmps) = true
  · simp only [hw, if_true] at h
    rcases h with h | h
    · unfold Oper.wp at h
      cases hr : (execOp a.eval o).run P w with
      | ok r w1 =>
        obtain ⟨v, rfl, hg⟩ := grows_of_cls hc a.eval w r w1 hr
        rw [hr] at h
        refine ⟨v, w1, hg, h, fun a' K' he hwt hK => ?_⟩
        unfold wpOp
        simp only [hi]
        rw [hwt, if_pos hw]
        refine .inl ?_
        unfold Oper.wp
        rw [he, hr]
        exact hK
      | halt x w1 =>
        rw [hr] at h
        cases x <;> simp only [Oper.upon] at h
        exact absurd h (hQ.1 _ _ _)
    · exact absurd h.2 hQ.lets
  · have hw' : Region.wanted o (yielded ops a.tmps) = false := by simpa using hw
    simp only [hw', Bool.false_eq_true, if_false] at h
    refine ⟨undef, w, fun _ _ => rfl, h, fun a' K' _ hwt hK => ?_⟩
    unfold wpOp
    simp only [hi]
    rw [hwt, hw']
    simpa using hK

/-- Whatever an operation does, it only fills its slot. -/
def Puts (a : Act) (d : Option Tmp) (a' : Act) : Prop := ∃ u ds, a' = { tmps := (a.put d u).tmps, defers := ds }

theorem puts_put (a : Act) (d : Option Tmp) (u : Value) : Puts a d (a.put d u) := ⟨u, (a.put d u).defers, rfl⟩

theorem wpOp_puts {i : Nat} {o : Oper} {a : Act} {w : World} {K : Act → World → Prop} (hi : ops[i]? = some o) (h : wpOp P ops Q i K a w) :
    wpOp P ops Q i (fun a' w' => K a' w' ∧ Puts a o.dst a') a w := by
  unfold wpOp at *
  simp only [hi] at *
  split
  · rename_i hw
    simp only [hw, if_true] at h
    refine h.imp (fun h => ?_) id
    unfold Oper.wp at *
    generalize (execOp a.eval o).run P w = r at *
    cases r with
    | ok n w' =>
      cases n <;> simp only [Oper.upon] at h ⊢
      case value u => exact ⟨h, puts_put _ _ _⟩
      case skip => exact ⟨h, puts_put _ _ _⟩
      case defer d => exact ⟨h, undef, _, by cases o.dst <;> rfl⟩
      case enter f args =>
        refine Calls.mono h fun e w'' he => ?_
        cases e with
        | returned u => exact ⟨he, puts_put _ _ _⟩
        | panicked c => exact he
        | outgrown => exact he
      case row row args => exact Rows.mono h fun u w'' he => ⟨he, puts_put _ _ _⟩
    | halt x w' => cases x <;> simp only [Oper.upon] at h ⊢ <;> exact h
  · rename_i hw
    simp only [hw] at h
    exact ⟨h, puts_put _ _ _⟩

theorem wpOp_some {i : Nat} {a : Act} {w : World} {K : Act → World → Prop} (hQ : Tame Q) (h : wpOp P ops Q i K a w) : ∃ a1 w1, K a1 w1 := by
  unfold wpOp at h
  split at h
  · exact ⟨_, _, h⟩
  · rename_i o ho
    split at h
    · rcases h with h | h
      · unfold Oper.wp at h
        generalize (execOp a.eval o).run P w = r at h
        cases r with
        | ok n w' =>
          cases n <;> simp only [Oper.upon] at h
          case value u => exact ⟨_, _, h⟩
          case skip => exact ⟨_, _, h⟩
          case defer d => exact ⟨_, _, h⟩
          case enter f args =>
            obtain ⟨e, w'', fr, he, _⟩ := h []
            cases e with
            | returned u => exact ⟨_, _, he⟩
            | panicked c => exact absurd he (hQ.1 _ _ _)
            | outgrown => exact absurd he hQ.lets
          case row row args =>
            obtain ⟨v, w'', hv, _⟩ := h default []
            exact ⟨_, _, hv⟩
        | halt x w' => cases x <;> simp only [Oper.upon] at h; exact absurd h (hQ.1 _ _ _)
      · exact absurd h.2 hQ.lets
    · exact ⟨_, _, h⟩

theorem eval_puts {a a' : Act} {d : Option Tmp} (h : Puts a d a') {x : Operand} (hx : ∀ t, d = some t → x ≠ .tmp t) : a'.eval x = a.eval x := by
  obtain ⟨u, ds, rfl⟩ := h
  exact Act.eval_put (v := u) hx

theorem exec_puts {o : Oper} (hs : ∀ cs b, o.op ≠ .select cs b) {a a' : Act} {d : Option Tmp} (h : Puts a d a') (hd : ∀ t, d = some t → t ∉ o.looksAt ops) : execOp a'.eval o = execOp a.eval o := by
  obtain ⟨u, ds, rfl⟩ := h
  exact execOp_put (ops := ops) o hs a d u hd
theorem wanted_puts {o : Oper} {a a' : Act} {d : Option Tmp} (h : Puts a d a') (hd : ∀ t, d = some t → t ∉ o.looksAt ops) :
    Region.wanted o (yielded ops a'.tmps) = Region.wanted o (yielded ops a.tmps) := by
  obtain ⟨u, ds, rfl⟩ := h
  exact wanted_put (ops := ops) o a d u hd

/-- The other way round: what was done ahead of the slot's filling is done behind it. -/
theorem wpOp_put' {j : Nat} {oi oj : Oper} {v : Value} (hj : ops[j]? = some oj) (hap : oi.apart ops oj = true) (hQ : Tame Q)
    (hsj : ∀ cs b, oj.op ≠ .select cs b) {K : Act → World → Prop} {a : Act} {w : World}
    (h : wpOp P ops Q j (fun a' w' => K (a'.put oi.dst v) w') a w) : wpOp P ops Q j K (a.put oi.dst v) w := by
  obtain ⟨h1, h2, h3⟩ := Oper.apart_spec hap
  unfold wpOp at *
  simp only [hj] at *
  rw [wanted_put oj a oi.dst v h1]
  split
  · rename_i hw
    simp only [hw, if_true] at h
    rcases h with h | h
    case inr => exact absurd h.2 hQ.lets
    refine .inl ?_
    unfold Oper.wp at *
    rw [execOp_put oj hsj a oi.dst v h1]
    generalize (execOp a.eval oj).run P w = r at *
    cases r with
    | ok n w' =>
      cases n <;> simp only [Oper.upon] at h ⊢
      case value u => rw [Act.put_comm a v u h2]; exact h
      case skip => rw [Act.put_comm a v undef h2]; exact h
      case defer d =>
        rw [Act.put_defers, Act.put_comm _ v undef h2]
        exact h
      case enter f args =>
        refine Calls.mono h fun e w'' he => ?_
        cases e with
        | returned u => dsimp only at he ⊢; rw [Act.put_comm a v u h2]; exact he
        | panicked c => exact absurd he (hQ.1 _ _ _)
        | outgrown => exact he
      case row row args => exact Rows.mono h fun u w'' he => by rw [Act.put_comm a v u h2]; exact he
    | halt x w' =>
      cases x <;> simp only [Oper.upon] at h ⊢
      case panic u => exact absurd h (hQ.1 _ _ _)
  · rename_i hw
    simp only [hw] at h
    rw [Act.put_comm a v undef h2]
    exact h
end

/-! Which operations are forced ahead of which. -/
def Listed.Closed (ops : Array Oper) (listed : Array Bool) : Prop :=
  ∀ j o, ops[j]? = some o → listed.getD j false = true → ∀ e ∈ o.after, Region.binds .any e = true → listed.getD e.on false = true
def Listed.Ready (ops : Array Oper) (listed : Array Bool) (j : Nat) : Prop :=
  ∀ o, ops[j]? = some o → ∀ e ∈ o.after, Region.binds .any e = true → listed.getD e.on false = true

def maskOf (acc : List Nat) (es : List Edge) : Nat := es.foldl (fun s e => if Region.binds .any e then s ||| 2 ^ e.on ||| acc.getD e.on 0 else s) 0
def masks : List Oper → List Nat → List Nat
  | [], acc => acc
  | o :: l, acc => masks l (acc ++ [maskOf acc o.after.toList])
def backB : List Oper → Nat → Bool
  | [], _ => true
  | o :: l, k => (o.after.toList.all fun e => !Region.binds .any e || e.on < k) && backB l (k + 1)

section
variable {ops : Array Oper}
def GoodMask (ops : Array Oper) (acc : List Nat) : Prop :=
  ∀ j k, (acc.getD j 0).testBit k = true → k < j ∧ ∀ listed, Listed.Closed ops listed → Listed.Ready ops listed j → listed.getD k false = true

theorem mask_bit (acc : List Nat) (k : Nat) : ∀ (es : List Edge) (s : Nat), (es.foldl (fun s e => if Region.binds .any e then s ||| 2 ^ e.on ||| acc.getD e.on 0 else s) s).testBit k = true →
    s.testBit k = true ∨ ∃ e ∈ es, Region.binds .any e = true ∧ (e.on = k ∨ (acc.getD e.on 0).testBit k = true)
  | [], s, h => .inl h
  | e :: es, s, h => by
    simp only [List.foldl_cons] at h
    rcases mask_bit acc k es _ h with h | ⟨e', he', h'⟩
    · split at h
      · rename_i hb
        rw [Nat.testBit_or, Nat.testBit_or, Bool.or_eq_true, Bool.or_eq_true] at h
        rcases h with (h | h) | h
        · exact .inl h
        · rw [Nat.testBit_two_pow] at h
          exact .inr ⟨e, List.mem_cons_self, hb, .inl (by simpa using h)⟩
        · exact .inr ⟨e, List.mem_cons_self, hb, .inr h⟩
      · exact .inl h
    · exact .inr ⟨e', List.mem_cons_of_mem _ he', h'⟩

theorem good_masks : ∀ (l : List Oper) (acc : List Nat), (∀ j, l[j]? = ops[acc.length + j]?) → backB l acc.length = true → GoodMask ops acc → GoodMask ops (masks l acc)
  | [], acc, _, _, hg => hg
  | o :: l, acc, hl, hb, hg => by
    simp only [backB, Bool.and_eq_true] at hb
    refine good_masks l _ (fun j => ?_) (by simpa using hb.2) ?_
    · have := hl (j + 1)
      simp only [List.length_append, List.length_cons, List.length_nil]
      rw [show acc.length + (0 + 1) + j = acc.length + (j + 1) by omega, ← this]; rfl
    · intro j k h
      rcases Nat.lt_trichotomy j acc.length with hj | hj | hj
      · rw [show (acc ++ [maskOf acc o.after.toList]).getD j 0 = acc.getD j 0 by simp [List.getElem?_append_left hj]] at h
        exact hg j k h
      · subst hj
        rw [show (acc ++ [maskOf acc o.after.toList]).getD acc.length 0 = maskOf acc o.after.toList by simp] at h
        have ho : ops[acc.length]? = some o := by simpa using (hl 0).symm
        rcases mask_bit acc k _ 0 h with h | ⟨e, he, hbd, h⟩
        · simp at h
        · have hlt : e.on < acc.length := by
            have := List.all_eq_true.1 hb.1 e he
            simpa [hbd] using this
          have hea : e ∈ o.after := by simpa using he
          rcases h with h | h
          · subst h
            exact ⟨hlt, fun listed _ hr => hr o ho e hea hbd⟩
          · obtain ⟨h1, h2⟩ := hg e.on k h
            exact ⟨by omega, fun listed hc hr => h2 listed hc fun o' ho' e' he' hb' => hc e.on o' ho' (hr o ho e hea hbd) e' he' hb'⟩
      · rw [show (acc ++ [maskOf acc o.after.toList]).getD j 0 = 0 by simp [List.getElem?_eq_none (show (acc ++ [maskOf acc o.after.toList]).length ≤ j by simp; omega)]] at h
        simp at h
end

/-! Sums and tests of whole numbers that only come out of the frame. -/
def isI (v : Value) : Prop := ∃ n, v = .int .i64 n
def srcOf (ops : Array Oper) (q : Nat) : Operand := match ops[q]? with
  | some o => match o.op with
    | .move x => x
    | _ => .const undef
  | none => .const undef
def dstOf (ops : Array Oper) (q : Nat) : Option Tmp := (ops[q]?).bind (·.dst)
def moveOk (ops : Array Oper) (q : Nat) : Bool := match ops[q]? with
  | some o => o.guard.isNone && match o.op, o.dst with
    | .move (.tmp x), some m => (List.range ops.size).all fun j => dstOf ops j != some x && (j == q || dstOf ops j != some m)
    | _, _ => false
  | none => false
def opdOk (ops : Array Oper) (L : List Nat) (mask : Nat) : Operand → Bool
  | .const (.int .i64 _) => true
  | .tmp m => L.any fun q => dstOf ops q == some m && mask.testBit q
  | _ => false
def ariOp : BinOp → Bool
  | .add | .sub | .mul | .lss | .leq | .gtr | .geq | .eql | .neq => true
  | _ => false
def ariOk (ops : Array Oper) (L : List Nat) (mask : Nat) (o : Oper) : Bool := o.guard.isNone && match o.op with
  | .binOp b _ x y _ => ariOp b && opdOk ops L mask x && opdOk ops L mask y
  | _ => false

theorem ari_yields {P : Program} {ops : Array Oper} {L : List Nat} {mask : Nat} {o : Oper} {a : Act} (h : ariOk ops L mask o = true)
    (hI : ∀ q ∈ L, mask.testBit q = true → ∀ m, dstOf ops q = some m → isI (a.eval (.tmp m))) : ∃ v, Yields P ops o v a := by
  obtain ⟨dst, op, type, pos, after, guard⟩ := o
  simp only [ariOk, Bool.and_eq_true] at h
  obtain ⟨hg, h⟩ := h
  have hg' : guard = none := by simpa using hg
  subst hg'
  have hopd : ∀ x, opdOk ops L mask x = true → isI (a.eval x) := by
    intro x hx
    unfold opdOk at hx
    split at hx
    · exact ⟨_, rfl⟩
    · obtain ⟨q, hq, h2⟩ := List.any_eq_true.1 hx
      simp only [Bool.and_eq_true, beq_iff_eq] at h2
      exact hI q hq h2.2 _ h2.1
    · cases hx
  split at h
  · rename_i b t x y yt
    simp only [Bool.and_eq_true] at h
    obtain ⟨n, hn⟩ := hopd x h.1.2
    obtain ⟨k, hk⟩ := hopd y h.2
    have hb := h.1.1
    have key : ∃ v, ∀ w, (execOp a.eval { dst, op := .binOp b t x y yt, type, pos, after, guard := none }).run P w = .ok (.value v) w := by
      simp only [execOp, hn, hk]
      cases b
      case add => exact ⟨.int .i64 (IntKind.i64.wrap (n + k)), fun _ => rfl⟩
      case sub => exact ⟨.int .i64 (IntKind.i64.wrap (n - k)), fun _ => rfl⟩
      case mul => exact ⟨.int .i64 (IntKind.i64.wrap (n * k)), fun _ => rfl⟩
      case eql => exact ⟨.bool (n == k), fun _ => rfl⟩
      case neq => exact ⟨.bool (n != k), fun _ => rfl⟩
      case lss => exact ⟨.bool (decide (n < k)), fun _ => rfl⟩
      case leq => exact ⟨.bool (decide (n ≤ k)), fun _ => rfl⟩
      case gtr => exact ⟨.bool (decide (n > k)), fun _ => rfl⟩
      case geq => exact ⟨.bool (decide (n ≥ k)), fun _ => rfl⟩
      all_goals cases hb
    obtain ⟨v, hv⟩ := key
    exact ⟨v, .inl ⟨rfl, hv⟩⟩
  · cases h

/-- What is asked of a region: edges lead back; moves of L are moves; of two operations that no edge orders one is no matter of the world, or both read; and they are apart. -/
def textB (FO : TypeId → Nat → Bool) (L : List Nat) (ops : Array Oper) : Bool :=
  Region.noSelect ops && backB ops.toList 0 && L.all (moveOk ops) &&
  (List.range ops.size).all fun i => match ops[i]? with
    | none => true
    | some oi => (List.range i).all fun k => ((masks ops.toList []).getD i 0).testBit k || match ops[k]? with
      | none => true
      | some ok => ok.apart ops oi && oi.apart ops ok &&
          (clsOf FO ok == 2 || ariOk ops L ((masks ops.toList []).getD k 0) ok || clsOf FO oi == 2 || ariOk ops L ((masks ops.toList []).getD i 0) oi || (clsOf FO ok == 1 && (clsOf FO oi == 1 || clsOf FO oi == 3)))

/-- What is so of the frame while the operations r are still to be done. -/
structure RInv (ops : Array Oper) (L r : List Nat) (a : Act) : Prop where
  src : ∀ q ∈ L, isI (a.eval (srcOf ops q))
  size : ∀ q ∈ L, ∀ m, dstOf ops q = some m → m < a.tmps.size
  done : ∀ q ∈ L, q ∉ r → ∀ m, dstOf ops q = some m → isI (a.eval (.tmp m))

section
variable {P : Program} {ops : Array Oper} {Q : Exit → Act → World → Prop} {FO : TypeId → Nat → Bool} {L : List Nat}

theorem wpOp_move {i : Nat} {o : Oper} {x : Operand} {a : Act} {w : World} {K : Act → World → Prop} (hQ : Tame Q) (hi : ops[i]? = some o) (hop : o.op = .move x) (hg : o.guard = none) (h : wpOp P ops Q i K a w) :
    K (a.put o.dst (a.eval x)) w := by
  refine yields_elim (v := a.eval x) hQ hi (.inl ⟨by simp [Region.wanted, hg], fun w => ?_⟩) h
  simp [execOp, hop]

theorem moveOk_spec {q : Nat} (h : moveOk ops q = true) : ∃ o x m, ops[q]? = some o ∧ o.guard = none ∧ o.op = .move (.tmp x) ∧ o.dst = some m ∧ (∀ j, dstOf ops j ≠ some x) ∧ ∀ j, j ≠ q → dstOf ops j ≠ some m := by
  unfold moveOk at h
  split at h
  · rename_i o ho
    simp only [Bool.and_eq_true] at h
    obtain ⟨hg, h⟩ := h
    split at h
    · rename_i x m hop hd
      have key : ∀ j, dstOf ops j ≠ some x ∧ (j ≠ q → dstOf ops j ≠ some m) := fun j => by
        by_cases hj : j < ops.size
        · have := List.all_eq_true.1 h j (List.mem_range.2 hj)
          simp only [Bool.and_eq_true, bne_iff_ne, ne_eq, Bool.or_eq_true, beq_iff_eq] at this
          exact ⟨this.1, fun hne => this.2.resolve_left hne⟩
        · have : dstOf ops j = none := by simp [dstOf, Array.getElem?_eq_none (Nat.le_of_not_lt hj)]
          rw [this]
          exact ⟨by simp, fun _ => by simp⟩
      exact ⟨o, x, m, ho, by simpa using hg, hop, hd, fun j => (key j).1, fun j => (key j).2⟩
    · cases h
  · cases h

theorem srcOf_move {q : Nat} {o : Oper} {x : Operand} (ho : ops[q]? = some o) (hop : o.op = .move x) : srcOf ops q = x := by
  simp [srcOf, ho, hop]

theorem size_puts {a a' : Act} {d : Option Tmp} (h : Puts a d a') : a'.tmps.size = a.tmps.size := by
  obtain ⟨u, ds, rfl⟩ := h
  cases d <;> simp [Act.put]

/-- One operation more is done. -/
theorem RInv.step {r : List Nat} {a : Act} {w : World} {i : Nat} {o : Oper} {K : Act → World → Prop} (hQ : Tame Q) (hL : ∀ q ∈ L, moveOk ops q = true) (hi : ops[i]? = some o)
    (hR : RInv ops L r a) (h : wpOp P ops Q i K a w) : wpOp P ops Q i (fun a' w' => K a' w' ∧ RInv ops L (r.erase i) a') a w := by
  have keep : ∀ a', Puts a o.dst a' → (∀ q ∈ L, isI (a'.eval (srcOf ops q))) ∧ (∀ q ∈ L, ∀ m, dstOf ops q = some m → m < a'.tmps.size) ∧ ∀ q ∈ L, q ≠ i → q ∉ r → ∀ m, dstOf ops q = some m → isI (a'.eval (.tmp m)) := fun a' hp => by
    refine ⟨fun q hq => ?_, fun q hq m hm => ?_, fun q hq hne hnr m hm => ?_⟩
    · obtain ⟨oq, x, m, ho, _, hop, _, hx, _⟩ := moveOk_spec (hL q hq)
      rw [srcOf_move ho hop, eval_puts hp fun t ht he => ?_, ← srcOf_move ho hop]
      · exact hR.src q hq
      · injection he with he
        subst he
        exact hx i (by simp [dstOf, hi, ht])
    · rw [size_puts hp]; exact hR.size q hq m hm
    · obtain ⟨oq, x, m', ho, _, hop, hd, _, hm'⟩ := moveOk_spec (hL q hq)
      have e : m' = m := by
        have : dstOf ops q = some m' := by simp [dstOf, ho, hd]
        rw [this] at hm; exact Option.some.inj hm
      subst e
      rw [eval_puts hp fun t ht he => ?_]
      · exact hR.done q hq hnr _ hm
      · injection he with he
        subst he
        exact hm' i (Ne.symm hne) (by simp [dstOf, hi, ht])
  by_cases hiL : i ∈ L
  · obtain ⟨oq, x, m, ho, hg, hop, hd, hx, hm⟩ := moveOk_spec (hL i hiL)
    have e : oq = o := Option.some.inj (ho.symm.trans hi)
    subst e
    have hK := wpOp_move hQ hi hop hg h
    refine Yields.wpOp (v := a.eval (.tmp x)) hi (.inl ⟨by simp [Region.wanted, hg], fun w => by simp [execOp, hop]⟩) ⟨hK, ?_⟩
    obtain ⟨k1, k2, k3⟩ := keep _ (puts_put a oq.dst (a.eval (.tmp x)))
    refine ⟨k1, k2, fun q hq hnr m' hm' => ?_⟩
    by_cases hqi : q = i
    · subst hqi
      have hme : m = m' := by
        have : dstOf ops q = some m := by simp [dstOf, hi, hd]
        rw [this] at hm'; exact Option.some.inj hm'
      subst hme
      have hlt := hR.size q hq m hm'
      have : (a.put oq.dst (a.eval (.tmp x))).eval (.tmp m) = a.eval (.tmp x) := by simp [hd, Act.put, Act.eval, hlt]
      rw [this, ← srcOf_move hi hop]
      exact hR.src q hq
    · exact k3 q hq hqi (fun hr => hnr ((List.mem_erase_of_ne hqi).2 hr)) m' hm'
  · refine wpOp_mono (fun a' w' h2 => ⟨h2.1, ?_⟩) (wpOp_puts hi h)
    obtain ⟨k1, k2, k3⟩ := keep a' h2.2
    refine ⟨k1, k2, fun q hq hnr m hm => ?_⟩
    have hqi : q ≠ i := fun e => hiL (e ▸ hq)
    exact k3 q hq hqi (fun hr => hnr ((List.mem_erase_of_ne hqi).2 hr)) m hm

/-- What no matter of the world is. -/
def Big (FO : TypeId → Nat → Bool) (ops : Array Oper) (L : List Nat) (mask : Nat) (o : Oper) (r : List Nat) : Prop :=
  clsOf FO o = 2 ∨ (ariOk ops L mask o = true ∧ ∀ q, mask.testBit q = true → q ∉ r)

theorem big_yields (hFO : ∀ s f, FO s f = true → fieldOk P s f = true) (hQ : Tame Q) {i mask : Nat} {o : Oper} {r : List Nat} {a : Act} {w : World} {K : Act → World → Prop} (hi : ops[i]? = some o)
    (hb : Big FO ops L mask o r) (hR : RInv ops L r a) (h : wpOp P ops Q i K a w) : ∃ v, Yields P ops o v a ∧ K (a.put o.dst v) w := by
  rcases hb with hc | ⟨ha, hq⟩
  · obtain ⟨v, hr, hK⟩ := runs_of hFO hQ hi (.inr hc) h
    exact ⟨v, yields_of_runs hFO hc hr, hK⟩
  · obtain ⟨v, hy⟩ := ari_yields (P := P) (a := a) ha fun q hqL hm m hd => hR.done q hqL (hq q hm) m hd
    exact ⟨v, hy, yields_elim hQ hi hy h⟩

theorem wpOp_swap (hFO : ∀ s f, FO s f = true → fieldOk P s f = true) (hQ : Tame Q) (hsel : ∀ (j : Nat) (o : Oper) cs b, ops[j]? = some o → o.op ≠ .select cs b) {k i mk mi : Nat} {ok oi : Oper} {r : List Nat} {a : Act} {w : World} {N : Act → World → Prop}
    (hk : ops[k]? = some ok) (hi : ops[i]? = some oi) (hap : ok.apart ops oi = true) (hap' : oi.apart ops ok = true) (hR : RInv ops L r a)
    (hc : Big FO ops L mk ok r ∨ Big FO ops L mi oi r ∨ (clsOf FO ok = 1 ∧ clsOf FO oi = 1) ∨ (clsOf FO ok = 1 ∧ clsOf FO oi = 3))
    (h : wpOp P ops Q k (wpOp P ops Q i N) a w) : wpOp P ops Q i (wpOp P ops Q k N) a w := by
  have hsk := fun cs b => hsel k ok cs b hk
  have hsi := fun cs b => hsel i oi cs b hi
  obtain ⟨a1, a2, a3⟩ := Oper.apart_spec hap
  obtain ⟨b1, b2, b3⟩ := Oper.apart_spec hap'
  rcases hc with hb | hb | ⟨c1, c2⟩ | ⟨c1, c2⟩
  · obtain ⟨v, hy, h2⟩ := big_yields hFO hQ hk hb hR h
    have h3 := wpOp_put hi hap hsk hsi (fun c a w hq => absurd hq (hQ.1 _ _ _)) hy h2
    exact wpOp_mono (fun a' w' h4 => Yields.wpOp hk h4.1 h4.2) h3
  · -- what i yields is known ahead
    have hex : ∃ v, Yields P ops oi v a := by
      rcases hb with hc | ⟨ha, hq⟩
      · obtain ⟨a', w', h2, hp⟩ := wpOp_some hQ (wpOp_puts hk h)
        obtain ⟨v, hr, _⟩ := runs_of hFO hQ hi (.inr hc) h2
        exact ⟨v, (yields_of_runs hFO hc hr).of_same (exec_puts hsi hp a1).symm (wanted_puts hp a1).symm⟩
      · exact ari_yields (P := P) (a := a) ha fun q hqL hm m hd => hR.done q hqL (hq q hm) m hd
    obtain ⟨v, hy⟩ := hex
    have h2 : wpOp P ops Q k (fun a' w' => N (a'.put oi.dst v) w') a w :=
      wpOp_mono (fun a' w' ⟨h3, hp⟩ => yields_elim hQ hi (hy.of_same (exec_puts hsi hp a1) (wanted_puts hp a1)) h3) (wpOp_puts hk h)
    exact Yields.wpOp hi hy (wpOp_put' hk hap' hQ hsk h2)
  · obtain ⟨v, hr, h2⟩ := runs_of hFO hQ hk (.inl c1) h
    obtain ⟨u, hr2, h3⟩ := runs_of hFO hQ hi (.inl c2) h2
    have e1 : RunsAt P ops w oi u a := hr2.of_same (exec_puts hsi (puts_put a ok.dst v) a1).symm (wanted_puts (puts_put a ok.dst v) a1).symm
    refine e1.wpOp hi ?_
    refine (hr.of_same (exec_puts hsk (puts_put a oi.dst u) b1) (wanted_puts (puts_put a oi.dst u) b1)).wpOp hk ?_
    rw [← Act.put_comm a v u a2]
    exact h3
  · obtain ⟨v, hr, h2⟩ := runs_of hFO hQ hk (.inl c1) h
    obtain ⟨u, w1, hg, h3, h4⟩ := grow_of hQ hi c2 h2
    refine h4 a _ (exec_puts hsi (puts_put a ok.dst v) a1).symm (wanted_puts (puts_put a ok.dst v) a1).symm ?_
    refine ((hr.of_same (exec_puts hsk (puts_put a oi.dst u) b1) (wanted_puts (puts_put a oi.dst u) b1)).grown c1 hg).wpOp hk ?_
    rw [← Act.put_comm a v u a2]
    exact h3

theorem wpOps_front (hFO : ∀ s f, FO s f = true → fieldOk P s f = true) (hQ : Tame Q) (hsel : ∀ (j : Nat) (o : Oper) cs b, ops[j]? = some o → o.op ≠ .select cs b) (hL : ∀ q ∈ L, moveOk ops q = true)
    {i mi : Nat} {oi : Oper} (hi : ops[i]? = some oi) (mk : Nat → Nat) (hmk : ∀ k q, (mk k).testBit q = true → q < k) :
    ∀ (r1 r2 : List Nat) (a : Act) (w : World), (r1 ++ i :: r2).Pairwise (· < ·) → (∀ q, mi.testBit q = true → q ∉ r1 ++ i :: r2) → RInv ops L (r1 ++ i :: r2) a →
      (∀ k ∈ r1, ∃ ok, ops[k]? = some ok ∧ ok.apart ops oi = true ∧ oi.apart ops ok = true ∧ (clsOf FO ok = 2 ∨ ariOk ops L (mk k) ok = true ∨ clsOf FO oi = 2 ∨ ariOk ops L mi oi = true ∨ (clsOf FO ok = 1 ∧ clsOf FO oi = 1) ∨ (clsOf FO ok = 1 ∧ clsOf FO oi = 3))) →
      wpOps P ops Q (r1 ++ i :: r2) a w → wpOp P ops Q i (wpOps P ops Q (r1 ++ r2)) a w
  | [], r2, a, w, _, _, _, _, h => by simpa [wpOps_cons] using h
  | k :: r1, r2, a, w, hs, hmi, hR, hk, h => by
    obtain ⟨ok, hok, hap, hap', hc⟩ := hk k List.mem_cons_self
    rw [List.cons_append, wpOps_cons] at h
    have h2 := RInv.step hQ hL hok hR h
    rw [List.cons_append, List.erase_cons_head] at h2
    have hs' : (r1 ++ i :: r2).Pairwise (· < ·) := (List.pairwise_cons.1 hs).2
    have h3 : wpOp P ops Q k (wpOp P ops Q i (wpOps P ops Q (r1 ++ r2))) a w :=
      wpOp_mono (fun a' w' h4 => wpOps_front hFO hQ hsel hL hi mk hmk r1 r2 a' w' hs' (fun q hq hm => hmi q hq (List.mem_cons_of_mem _ hm)) h4.2 (fun k' hk' => hk k' (List.mem_cons_of_mem _ hk')) h4.1) h2
    have hbk : ∀ q, (mk k).testBit q = true → q ∉ k :: r1 ++ i :: r2 := fun q hq hm => by
      have hlt := hmk k q hq
      rcases List.mem_cons.1 hm with e | hm
      · omega
      · have := (List.pairwise_cons.1 hs).1 q hm; omega
    have h4 := wpOp_swap hFO hQ hsel hok hi hap hap' hR (mk := mk k) (mi := mi) (by
      rcases hc with hc | hc | hc | hc | hc | hc
      · exact .inl (.inl hc)
      · exact .inl (.inr ⟨hc, hbk⟩)
      · exact .inr (.inl (.inl hc))
      · exact .inr (.inl (.inr ⟨hc, hmi⟩))
      · exact .inr (.inr (.inl hc))
      · exact .inr (.inr (.inr hc))) h3
    exact wpOp_mono (fun a' w' h5 => by rw [List.cons_append, wpOps_cons]; exact h5) h4
end

theorem getD_replicate_false' (m j : Nat) : (Array.replicate m false).getD j false = false := by
  rcases Nat.lt_or_ge j m with h | h
  · simp [h]
  · simp [h]

section
variable {P : Program} {Q : Exit → Act → World → Prop} {FO : TypeId → Nat → Bool} {L : List Nat}

theorem wpAny_of_text {ops : Array Oper} (hFO : ∀ s f, FO s f = true → fieldOk P s f = true) (hQ : Tame Q) (hB : textB FO L ops = true) :
    ∀ (n : Nat) (r : List Nat) (listed : Array Bool) (a : Act) (w : World), r.length = n → r.Pairwise (· < ·) → listed.size = ops.size → (∀ j, j ∈ r ↔ j < ops.size ∧ listed.getD j true = false) → Listed.Closed ops listed →
      RInv ops L r a → wpOps P ops Q r a w → wpAny P .any ops Q n listed a w := by
  simp only [textB, Bool.and_eq_true] at hB
  obtain ⟨⟨⟨hsel, hback⟩, hLm⟩, hpair⟩ := hB
  have hL : ∀ q ∈ L, moveOk ops q = true := fun q hq => List.all_eq_true.1 hLm q hq
  have hgood : GoodMask ops (masks ops.toList []) := good_masks ops.toList [] (fun j => by simp) hback (fun j k h => by simp at h)
  have hback' : ∀ j o, ops[j]? = some o → ∀ e ∈ o.after, Region.binds .any e = true → e.on < j := by
    have key : ∀ (l : List Oper) (k : Nat), backB l k = true → ∀ j o, l[j]? = some o → ∀ e ∈ o.after, Region.binds .any e = true → e.on < k + j := by
      intro l
      induction l with
      | nil => intro k _ j o h; simp at h
      | cons x l ih =>
        intro k hb j o ho e he hbd
        simp only [backB, Bool.and_eq_true] at hb
        cases j with
        | zero =>
          simp at ho
          subst ho
          have := List.all_eq_true.1 hb.1 e (by simpa using he)
          simpa [hbd] using this
        | succ j =>
          have := ih (k + 1) hb.2 j o (by simpa using ho) e he hbd
          omega
    intro j o ho e he hbd
    have := key ops.toList 0 hback j o (by simpa using ho) e he hbd
    omega
  intro n
  induction n with
  | zero =>
    intro r listed a w hn _ _ hr _ _ h
    have e : r = [] := List.eq_nil_of_length_eq_zero hn
    subst e
    refine ⟨?_, by simpa [wpOps] using h⟩
    cases hrd : Region.ready .any ops listed with
    | nil => rfl
    | cons j js =>
      have hj : j ∈ Region.ready .any ops listed := by rw [hrd]; exact List.mem_cons_self
      obtain ⟨h0, o, ho, _⟩ := mem_ready.1 hj
      have := (hr j).2 ⟨(Array.getElem?_eq_some_iff.1 ho).1, h0⟩
      cases this
  | succ n ih =>
    intro r listed a w hn hs hsz hr hcl hR h
    refine ⟨fun h0 => ?_, fun i hi => ?_⟩
    · -- the first of r is ready
      exfalso
      cases r with
      | nil => simp at hn
      | cons j js =>
        obtain ⟨hj, hun⟩ := (hr j).1 List.mem_cons_self
        have : j ∈ Region.ready .any ops listed := mem_ready.2 ⟨hun, ops[j], Array.getElem?_eq_getElem hj, fun e he hbd => by
          have hlt := hback' j _ (Array.getElem?_eq_getElem hj) e he hbd
          cases hg : listed.getD e.on false with
          | true => rfl
          | false =>
            have hin : e.on ∈ j :: js := (hr e.on).2 ⟨by omega, by
              have hlt' : e.on < listed.size := by omega
              simp [hlt'] at hg ⊢; exact hg⟩
            rcases List.mem_cons.1 hin with e1 | e1
            · omega
            · have := (List.pairwise_cons.1 hs).1 _ e1; omega⟩
        rw [h0] at this
        cases this
    · obtain ⟨hun, oi, hoi, hall⟩ := mem_ready.1 hi
      have hilt : i < ops.size := (Array.getElem?_eq_some_iff.1 hoi).1
      have hir : i ∈ r := (hr i).2 ⟨hilt, hun⟩
      obtain ⟨r1, r2, hr12⟩ := List.append_of_mem hir
      have hrdy : Listed.Ready ops listed i := fun o ho e he hbd => by
        have : o = oi := Option.some.inj (ho.symm.trans hoi)
        subst this
        exact hall e he hbd
      have hnotr : ∀ q, ((masks ops.toList []).getD i 0).testBit q = true → q ∉ r := fun q hq hm => by
        have h1 := (hgood i q hq).2 listed hcl hrdy
        have h2 := ((hr q).1 hm).2
        have hlt : q < listed.size := by rw [hsz]; exact ((hr q).1 hm).1
        simp [hlt] at h1 h2
        rw [h1] at h2; cases h2
      subst hr12
      have hk : ∀ k ∈ r1, ∃ ok, ops[k]? = some ok ∧ ok.apart ops oi = true ∧ oi.apart ops ok = true ∧ (clsOf FO ok = 2 ∨ ariOk ops L ((masks ops.toList []).getD k 0) ok = true ∨ clsOf FO oi = 2 ∨ ariOk ops L ((masks ops.toList []).getD i 0) oi = true ∨ (clsOf FO ok = 1 ∧ clsOf FO oi = 1) ∨ (clsOf FO ok = 1 ∧ clsOf FO oi = 3)) := fun k hk => by
        have hkr : k ∈ r1 ++ i :: r2 := List.mem_append_left _ hk
        have hklt : k < ops.size := ((hr k).1 hkr).1
        have hki : k < i := (List.pairwise_append.1 hs).2.2 k hk i List.mem_cons_self
        have h1 := List.all_eq_true.1 hpair i (List.mem_range.2 hilt)
        simp only [hoi] at h1
        have h2 := List.all_eq_true.1 h1 k (List.mem_range.2 hki)
        rw [Array.getElem?_eq_getElem hklt] at h2
        simp only [Bool.or_eq_true, Bool.and_eq_true, beq_iff_eq] at h2
        rcases h2 with h2 | ⟨⟨h2, h3⟩, h4⟩
        · exact absurd hkr (hnotr k h2)
        · refine ⟨ops[k], Array.getElem?_eq_getElem hklt, h2, h3, ?_⟩
          rcases h4 with (((h4 | h4) | h4) | h4) | ⟨h4, h5 | h5⟩
          · exact .inl h4
          · exact .inr (.inl h4)
          · exact .inr (.inr (.inl h4))
          · exact .inr (.inr (.inr (.inl h4)))
          · exact .inr (.inr (.inr (.inr (.inl ⟨h4, h5⟩))))
          · exact .inr (.inr (.inr (.inr (.inr ⟨h4, h5⟩))))
      have h1 := wpOps_front hFO hQ (Region.noSelect_spec hsel) hL hoi (fun k => (masks ops.toList []).getD k 0) (fun k q hq => (hgood k q hq).1) r1 r2 a w hs hnotr hR hk h
      have h2 := RInv.step hQ hL hoi hR h1
      have hnd : (r1 ++ i :: r2).Nodup := hs.imp (fun hlt => Nat.ne_of_lt hlt)
      have hni : i ∉ r1 := fun hm => by
        have := (List.pairwise_append.1 hs).2.2 i hm i List.mem_cons_self
        omega
      have hni2 : i ∉ r2 := fun hm => by
        have := (List.pairwise_cons.1 (List.pairwise_append.1 hs).2.1).1 i hm
        omega
      rw [List.erase_append_right _ hni, List.erase_cons_head] at h2
      refine wpOp_mono (fun a' w' h3 => ih (r1 ++ r2) (listed.setIfInBounds i true) a' w' ?_ ?_ (by simp [hsz]) ?_ ?_ h3.2 h3.1) h2
      · simp at hn ⊢; omega
      · exact hs.sublist (List.Sublist.append (List.Sublist.refl _) (List.sublist_cons_self _ _))
      · intro j
        by_cases hji : j = i
        · subst hji
          constructor
          · intro hm
            rcases List.mem_append.1 hm with hm | hm
            · exact absurd hm hni
            · exact absurd hm hni2
          · rintro ⟨_, hf⟩
            have : j < listed.size := by omega
            simp [this] at hf
        · rw [getD_set_ne true (Ne.symm hji), ← hr j]
          simp [hji]
      · intro j oj hoj hl e he hbd
        by_cases hij : i = j
        · subst hij
          have : oj = oi := Option.some.inj (hoj.symm.trans hoi)
          subst this
          exact getD_set_true (hall e he hbd)
        · rw [getD_set_ne false hij] at hl
          exact getD_set_true (hcl j oj hoj hl e he hbd)

/-- A REGION THAT DRAWS ITS ORDER, IN THE ORDER OF THE TEXT. L: moves out of slots that hold whole numbers. -/
theorem wp_region_text {id : Nat} {l : List Oper} {a : Act} {w : World} (hFO : ∀ s f, FO s f = true → fieldOk P s f = true) (hm : P.follows .mixedOrders = true) (L : List Nat)
    (hB : textB FO L l.toArray = true) (hQ : Tame Q) (hL : ∀ q ∈ L, isI (a.eval (srcOf l.toArray q)) ∧ ∀ m, dstOf l.toArray q = some m → m < a.tmps.size)
    (h : wpList P l.toArray Q l a w.drew) : (Code.region id l.toArray true).wp P Q a w := by
  refine wp_region_any hm ?_
  have h1 : wpOps P l.toArray Q (List.range l.toArray.size) a w.drew := by
    have := wpOps_eq_wpList (P := P) (Q := Q) (ops := l.toArray) l 0 (by simp)
    rw [List.range_eq_range', List.size_toArray, this]; exact h
  have hget : ∀ j, (Array.replicate l.toArray.size false).getD j true = false ↔ j < l.toArray.size := fun j => by
    rw [List.size_toArray]
    by_cases hj : j < l.length
    · simp [hj]
    · simp [hj]
  exact wpAny_of_text hFO hQ hB _ (List.range l.toArray.size) _ a _ (by simp) List.pairwise_lt_range (by simp)
    (fun j => by rw [hget]; simp) (fun j o _ hl => (by rw [getD_replicate_false'] at hl; cases hl))
    ⟨fun q hq => (hL q hq).1, fun q hq => (hL q hq).2, fun q hq hnr m hm => by
      exfalso
      have : q < l.toArray.size := by
        unfold dstOf at hm
        rcases Nat.lt_or_ge q l.toArray.size with h' | h'
        · exact h'
        · rw [Array.getElem?_eq_none h'] at hm; cases hm
      exact hnr (List.mem_range.2 this)⟩ h1
end
end Go.Proofs.YtolheapnopmhgaaGreatDoor
