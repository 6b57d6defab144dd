/- What the evaluator says of append is so. -/
import Derived.Test.YtolheapnopmhgaaGreatDoorAct
import Derived.Laws.Append
import Derived.Laws.AppendOwn
set_option linter.all false
namespace Go.Proofs.YtolheapnopmhgaaGreatDoor
open Go

section
variable {C : Ctx} {ρ : Sym} {Φ : Env} {base : Nat} {h : H} {w : World}

/-- What is appended fits. -/
theorem app_fits {ats : Array TypeId} {ty t t' e e' : TypeId} {sz n sLen sCap : Nat} {b : Option Addr} {x : Option Addr} {xc : Nat} {vs : List Value} {w' : World} (h0 : ats[0]? = some t) (h1 : ats[1]? = some t') (hu : C.P.underlying t = some (.slice e)) (hu' : C.P.underlying t' = some (.slice e'))
    (hsz : sizeT C e = some sz) (hnew : (Builtin.firstCells sz n (.slice x n xc)).run C.P w = .ok vs.toArray w) (hle : sLen + n ≤ sCap)
    (hst : match b with
      | none => w' = w
      | some a => (storeCells (a.add (sLen * sz)) vs).run C.P w = .ok () w') :
    (Builtin.append_ ats ty #[.slice b sLen sCap, .slice x n xc]).run C.P w = .ok (.slice b (sLen + n) sCap) w' := by
  unfold Builtin.append_
  simp only [h0, h1]
  simp only [List.getElem?_toArray, List.getElem?_cons_zero, List.getElem?_cons_succ, Sem.run_bind, under_run hu, under_run hu', Result.andThen, sizeT_run hsz]
  cases b with
  | none => subst hst; simp [Builtin.lenOf, hle, hnew, Result.andThen]
  | some a => simp [Builtin.lenOf, hle, hnew, Result.andThen, hst]
/-- What is appended doesn't fit: a new block, of a size that is drawn. -/
theorem app_grows {ats : Array TypeId} {ty t t' e e' : TypeId} {i : TypeInfo} {z : Value} {n sLen sCap : Nat} {b : Option Addr} {x : Option Addr} {xc : Nat} {os vs : List Value} (h0 : ats[0]? = some t) (h1 : ats[1]? = some t') (hu : C.P.underlying t = some (.slice e)) (hu' : C.P.underlying t' = some (.slice e'))
    (hi : C.P.info? e = some i) (hz : i.zero = some z) (hold : (Builtin.firstCells i.size sLen (.slice b sLen sCap)).run C.P w.drew = .ok os.toArray w.drew) (hnew : (Builtin.firstCells i.size n (.slice x n xc)).run C.P w.drew = .ok vs.toArray w.drew) (hg : sCap < sLen + n)
    (h63 : ((sLen + n : Nat) : Int) ≤ 9223372036854775807) (hfit : Builtin.nextslicecap (sLen + n) sCap * i.bytes ≤ 281474976710656) :
    (Builtin.append_ ats ty #[.slice b sLen sCap, .slice x n xc]).run C.P w =
      .ok (.slice (some ⟨w.heap.size, 0, none⟩) (sLen + n) (grownCap w (sLen + n) sCap e)) (w.drew.alloc (.cells (os.toArray ++ vs.toArray ++ Builtin.zeroCells z.cells (grownCap w (sLen + n) sCap e - (sLen + n))) e)) := by
  have hn : ¬ (sLen + n ≤ sCap) := by omega
  have h63' : ¬ (9223372036854775807 < ((sLen : Int) + (n : Int))) := by omega
  have h48' : ¬ (281474976710656 < Builtin.nextslicecap (sLen + n) sCap * i.bytes) := by omega
  unfold Builtin.append_
  simp only [h0, h1]
  simp only [List.getElem?_toArray, List.getElem?_cons_zero, List.getElem?_cons_succ, Sem.run_bind, under_run hu, under_run hu', Result.andThen]
  simp [sizeOf, typeInfo, zeroValue, hi, hz, Builtin.lenOf, hn, h63', h48', Question.forced, hold, hnew, newRow, grownCap, Result.andThen]
  congr 2
  rw [← Array.append_assoc]; simp
/-- A slice in a new block. -/
theorem fresh_run (H1 : HR C.odd ρ Φ base h w) {sz len cap : Nat} {t : Tr V} {cs : Array Value} {e : TypeId} (hlen : len ≤ cap) (hsize : cap * sz ≤ cs.size)
    (hcells : ∀ i, i < len * sz → ∃ v x, t.get i = some v ∧ denC ρ Φ v = some x ∧ cs[i]? = some x) :
    ∃ Φ', Fw Φ h.n Φ' (freshS h sz len t).2.n ∧ HR C.odd ρ Φ' base (freshS h sz len t).2 (w.alloc (.cells cs e)) ∧ den0 ρ Φ' (freshS h sz len t).1 = some (.slice (some ⟨w.heap.size, 0, none⟩) len cap) := by
  have hn : Φ h.n = none := by
    cases hc : Φ h.n with
    | none => rfl
    | some L => have := (H1.lt _ _ hc).1; omega
  have hge := upd_ge (Φ := Φ) hn ⟨w.heap.size, 0, cap, sz⟩
  refine ⟨upd Φ h.n ⟨w.heap.size, 0, cap, sz⟩, Fw.upd hn _, ?_, ?_⟩
  · refine (H1.later (.cells false (len * sz) sz t)).tell hn (Nat.lt_succ_self _) (Tr.get_put_same _ _ _) rfl ?_
    refine ⟨rfl, Nat.mul_le_mul_right _ hlen, fun _ => H1.bs, cs, e, (0, 0), alloc_at w _, fun _ => rfl, by show 0 + cap * sz ≤ cs.size; omega, fun i hi => ?_⟩
    obtain ⟨v, x, h1, h2, h3⟩ := hcells i hi
    exact ⟨v, x, h1, denC_ge hge h2, by show cs[0 + i]? = some x; rw [Nat.zero_add]; exact h3⟩
  · simp only [freshS, den0, upd_same, Option.map_some, Loc.at_]
    simp
/-- A block that was not told of lies where nothing else does. -/
theorem HR.tell2 (H1 : HR C.odd ρ Φ base h w) {j : Nat} {L : Loc} {o : O} (hn : Φ j = none) (hj : j < h.n) (ho : h.t.get j = some o) (hL : L.blk < w.heap.size)
    (hfree : ∀ k M, Φ k = some M → live (h.t.get k) = true → M.blk ≠ L.blk) (hobj : ObjR C.odd ρ (upd Φ j L) L base o w) : HR C.odd ρ (upd Φ j L) base h w := by
  have hge := upd_ge (Φ := Φ) hn L
  have old : ∀ k M, upd Φ j L k = some M → (k = j ∧ M = L) ∨ (k ≠ j ∧ Φ k = some M) := fun k M hk => by
    unfold upd at hk
    split at hk
    · rename_i e; cases hk; exact .inl ⟨e, rfl⟩
    · rename_i e; exact .inr ⟨e, hk⟩
  refine ⟨H1.bs, fun k M hk => ?_, fun k M o' hk ho' => ?_, fun k k' M M' hk hk' hl hl' hb => ?_⟩
  · rcases old k M hk with ⟨rfl, rfl⟩ | ⟨_, hk⟩
    · exact ⟨hj, hL⟩
    · exact H1.lt k M hk
  · rcases old k M hk with ⟨rfl, rfl⟩ | ⟨_, hk⟩
    · rw [ho] at ho'; cases ho'; exact hobj
    · exact (H1.obj k M o' hk ho').keep hge rfl
  · rcases old k M hk with ⟨e1, e2⟩ | ⟨_, g1⟩ <;> rcases old k' M' hk' with ⟨e3, e4⟩ | ⟨_, g2⟩
    · rw [e1, e3]
    · exfalso; rw [e2] at hb; exact hfree k' M' g2 hl' hb.symm
    · exfalso; rw [e4] at hb; exact hfree k M g1 hl hb
    · exact H1.one k k' M M' g1 g2 hl hl' hb
/-- A slice that has grown where it lies. -/
theorem killed_run (H1 : HR C.odd ρ Φ base h w) {j m sz len off K : Nat} {L : Loc} {t t' : Tr V} {cs : Array Value} {e : TypeId} {w' : World} (hj : Φ j = some L) (ho : h.t.get j = some (.cells false m sz t))
    (hsz : w'.heap.size = w.heap.size) (hw : ∀ b, b ≠ L.blk → w'.heap[b]? = w.heap[b]?) (hb : w'.heap[L.blk]? = some (.cells cs e (0, 0))) (hlen : len ≤ K) (hsize : L.d + off + K * sz ≤ cs.size)
    (hcells : ∀ i, i < len * sz → ∃ v x, t'.get i = some v ∧ denC ρ Φ v = some x ∧ cs[L.d + off + i]? = some x) :
    ∃ Φ', Fw Φ h.n Φ' (freshS (h.set j .dead) sz len t').2.n ∧ HR C.odd ρ Φ' base (freshS (h.set j .dead) sz len t').2 w' ∧ den0 ρ Φ' (freshS (h.set j .dead) sz len t').1 = some (.slice (some (L.at_ off)) len K) := by
  have hn : Φ h.n = none := by
    cases hc : Φ h.n with
    | none => rfl
    | some L => have := (H1.lt _ _ hc).1; omega
  obtain ⟨_, _, hbase, _⟩ := H1.cells hj ho
  have H2 := H1.swap (o' := .dead) hj ho rfl hsz hw trivial
  have hge := upd_ge (Φ := Φ) hn ⟨L.blk, L.d + off, K, sz⟩
  refine ⟨upd Φ h.n ⟨L.blk, L.d + off, K, sz⟩, Fw.upd hn _, ?_, ?_⟩
  · refine (H2.later (.cells false (len * sz) sz t')).tell2 hn (Nat.lt_succ_self _) (Tr.get_put_same _ _ _) (by rw [hsz]; exact (H1.lt j L hj).2) (fun k M hk hl hbk => ?_) ?_
    · have hkn : h.n ≠ k := fun e2 => by subst e2; rw [hn] at hk; cases hk
      have e3 : ((h.set j .dead).new (.cells false (len * sz) sz t')).t.get k = (h.set j .dead).t.get k := Tr.get_put_ne _ _ hkn
      rw [e3] at hl
      have e4 : (h.set j .dead).t.get k = if j = k then some .dead else h.t.get k := Tr.get_put _ _ _ _
      rw [e4] at hl
      split at hl
      · cases hl
      · rename_i hjk
        exact hjk (H1.one j k L M hj hk (by rw [ho]; rfl) hl hbk.symm)
    · refine ⟨rfl, Nat.mul_le_mul_right _ hlen, hbase, cs, e, (0, 0), hb, fun _ => rfl, hsize, fun i hi => ?_⟩
      obtain ⟨v, x, h1, h2, h3⟩ := hcells i hi
      exact ⟨v, x, h1, denC_ge hge h2, h3⟩
  · show (upd Φ h.n ⟨L.blk, L.d + off, K, sz⟩ h.n).map _ = _
    rw [upd_same]
    simp [Loc.at_]

theorem row_cells {t : Tr V} {so n : Nat} {vs : List Value} (hr : denRow ρ Φ t so n = some vs) : ∀ v ∈ vs, v.oneCell' = true := fun v hv => by
  obtain ⟨i, hi⟩ := List.getElem?_of_mem hv
  obtain ⟨h1, h2⟩ := denRow_some hr
  have hlt : i < vs.length := (List.getElem?_eq_some_iff.1 hi).1
  obtain ⟨u, x, _, h7, h8⟩ := h2 i (by omega)
  rw [hi] at h8; cases h8
  obtain ⟨k1, k2⟩ := denC_cell h7
  cases v <;> first | rfl | exact absurd rfl (k1 _) | exact absurd rfl (k2 _)
/-- A run of stores, plainly. -/
theorem store_raw {b o : Nat} {cs : Array Value} {e : TypeId} {vs : List Value} (hb : w.heap[b]? = some (.cells cs e (0, 0))) (hle : o + vs.length ≤ cs.size) (h1 : ∀ v ∈ vs, v.oneCell' = true) :
    ∃ w' cs', (storeCells ⟨b, o, none⟩ vs).run C.P w = .ok () w' ∧ w'.heap.size = w.heap.size ∧ (∀ k, k ≠ b → w'.heap[k]? = w.heap[k]?) ∧ w'.heap[b]? = some (.cells cs' e (0, 0)) ∧ cs'.size = cs.size ∧
      (∀ i, i < vs.length → cs'[o + i]? = vs[i]?) ∧ (∀ i, ¬ (o ≤ i ∧ i < o + vs.length) → cs'[i]? = cs[i]?) ∧ w'.os = w.os ∧ w'.output = w.output := by
  have hrun := run_storeCells_at (P := C.P) b o e vs 0 cs w hb (by omega) h1
  obtain ⟨r1, r2, r3⟩ := setRow_at w b cs ((cs.toList.take (o + 0) ++ vs ++ cs.toList.drop (o + 0 + vs.length)).toArray) e hb
  refine ⟨_, _, hrun, r3, r2, r1, ?_, fun i hi => ?_, fun i hi => ?_, rfl, rfl⟩
  · simp; omega
  · simp only [List.getElem?_toArray, Nat.add_zero]
    rw [List.append_assoc, List.getElem?_append_right (by simp; omega), List.getElem?_append_left (by simp; omega)]
    congr 1
    simp; omega
  · simp only [List.getElem?_toArray, Nat.add_zero]
    by_cases hlt : i < o
    · rw [List.append_assoc, List.getElem?_append_left (by simp; omega), List.getElem?_take, if_pos (by omega)]; simp
    · rw [List.getElem?_append_right (by simp; omega), List.getElem?_drop]
      rw [← Array.getElem?_toList]
      congr 1
      simp; omega
theorem growS_some {sz off len n so : Nat} {t s : Tr V} {q : V × H} (hq : growS h sz off len n t s so = some q) :
    ∃ T, q = freshS h sz (len + n) T ∧ (∀ i, i < len * sz → T.get i = t.get (off + i)) ∧ ∀ i, i < n * sz → T.get (len * sz + i) = s.get (so + i) := by
  unfold growS at hq
  replace hq := ob_some hq
  obtain ⟨old, ho, hq⟩ := hq
  replace hq := om_some hq
  obtain ⟨T, hT, rfl⟩ := hq
  have hold : ∀ i, i < len * sz → old.get i = t.get (off + i) := by
    cases off with
    | zero => intro i hi; cases ho; rw [Nat.zero_add]
    | succ off =>
      intro i hi
      rw [((Tr.cpy_some _ _ _ _ _ ho i).1 ⟨by omega, by omega⟩).1]
      congr 1
  refine ⟨T, rfl, fun i hi => ?_, fun i hi => ?_⟩
  · rw [(Tr.cpy_some _ _ _ _ _ hT i).2 (by omega), hold i hi]
  · rw [((Tr.cpy_some _ _ _ _ _ hT (len * sz + i)).1 ⟨by omega, by omega⟩).1]
    congr 1; omega
/-- Old cells and new ones, in a new block. -/
theorem grow_run (H1 : HR C.odd ρ Φ base h w) {sz len n cap : Nat} {e : TypeId} {os vs : List Value} {T : Tr V} {zc : Array Value} (hos : os.length = len * sz) (hvs : vs.length = n * sz) (hz : zc.size = sz) (hcap : len + n ≤ cap)
    (ho : ∀ i, i < len * sz → ∃ v x, T.get i = some v ∧ denC ρ Φ v = some x ∧ os[i]? = some x) (hn : ∀ i, i < n * sz → ∃ v x, T.get (len * sz + i) = some v ∧ denC ρ Φ v = some x ∧ vs[i]? = some x) :
    ∃ Φ', Fw Φ h.n Φ' (freshS h sz (len + n) T).2.n ∧ HR C.odd ρ Φ' base (freshS h sz (len + n) T).2 (w.alloc (.cells (os.toArray ++ vs.toArray ++ Builtin.zeroCells zc (cap - (len + n))) e)) ∧ den0 ρ Φ' (freshS h sz (len + n) T).1 = some (.slice (some ⟨w.heap.size, 0, none⟩) (len + n) cap) := by
  have e1 : (len + n) * sz = len * sz + n * sz := Nat.add_mul _ _ _
  have e2 : (cap - (len + n)) * sz = cap * sz - (len + n) * sz := Nat.sub_mul _ _ _
  have e3 : (len + n) * sz ≤ cap * sz := Nat.mul_le_mul_right _ hcap
  refine fresh_run H1 hcap ?_ fun i hi => ?_
  · simp [Builtin.zeroCells, hos, hvs, hz]
    omega
  · by_cases hlt : i < len * sz
    · obtain ⟨v, x, k1, k2, k3⟩ := ho i hlt
      refine ⟨v, x, k1, k2, ?_⟩
      rw [Array.getElem?_append_left (by simp; omega), Array.getElem?_append_left (by simp; omega)]
      simpa using k3
    · obtain ⟨v, x, k1, k2, k3⟩ := hn (i - len * sz) (by omega)
      refine ⟨v, x, by rw [← k1]; congr 1; omega, k2, ?_⟩
      rw [Array.getElem?_append_left (by simp; omega), Array.getElem?_append_right (by simp; omega)]
      simp only [List.size_toArray, hos, List.getElem?_toArray]
      exact k3

theorem infoT {e : TypeId} {sz by_ : Nat} {z : V} (h1 : sizeT C e = some sz) (h2 : bytesT C e = some by_) (h3 : zeroT C e = some z) :
    ∃ i x, C.P.info? e = some i ∧ i.size = sz ∧ i.bytes = by_ ∧ i.zero = some x ∧ ofV x = some z := by
  unfold sizeT at h1
  unfold bytesT at h2
  unfold zeroT at h3
  obtain ⟨i, hi, e1⟩ := Option.map_eq_some_iff.1 h1
  rw [hi] at h2 h3
  have h3' : ob i.zero ofV = some z := h3
  obtain ⟨x, hx, h4⟩ := ob_some h3'
  exact ⟨i, x, hi, e1, Option.some.inj h2, hx, h4⟩
theorem dead_run (H1 : HR C.odd ρ Φ base h w) {j : Nat} {L : Loc} {o : O} (hj : Φ j = some L) (ho : h.t.get j = some o) (hl : live (some o) = true) : HR C.odd ρ Φ base (h.set j .dead) w :=
  H1.swap hj ho hl rfl (fun _ _ => rfl) trivial
theorem drew_run (H1 : HR C.odd ρ Φ base h w) : HR C.odd ρ Φ base h w.drew := H1.drew _
/-- A slice that grows, in a new block: both sides. -/
theorem grows_run {h0 : H} {w0 : World} (H0 : HR C.odd ρ Φ base h0 w0) (H1 : HR C.odd ρ Φ base h w0) {ats : Array TypeId} {ty t t' e e' : TypeId} {i : TypeInfo} {z : V} {zx : Value} {sz n sLen sCap : Nat} {b : Option Addr} {x : Option Addr} {xc : Nat} {os vs : List Value} {T : Tr V}
    (h0' : ats[0]? = some t) (h1 : ats[1]? = some t') (hu : C.P.underlying t = some (.slice e)) (hu' : C.P.underlying t' = some (.slice e')) (hi : C.P.info? e = some i) (hsz : i.size = sz) (hz : i.zero = some zx) (hzv : ofV zx = some z) (hzs : z.size = sz)
    (hold : (Builtin.firstCells i.size sLen (.slice b sLen sCap)).run C.P w0.drew = .ok os.toArray w0.drew) (hnew : (Builtin.firstCells i.size n (.slice x n xc)).run C.P w0.drew = .ok vs.toArray w0.drew)
    (hg : sCap < sLen + n) (hN : sLen + n ≤ 2097152) (hby : i.bytes ≤ 1048576)
    (hos : os.length = sLen * sz) (hvs : vs.length = n * sz)
    (ho : ∀ i, i < sLen * sz → ∃ v x, T.get i = some v ∧ denC ρ Φ v = some x ∧ os[i]? = some x) (hn : ∀ i, i < n * sz → ∃ v x, T.get (sLen * sz + i) = some v ∧ denC ρ Φ v = some x ∧ vs[i]? = some x) :
    ∃ r w' Φ', Fw Φ h.n Φ' (freshS h sz (sLen + n) T).2.n ∧ HR C.odd ρ Φ' base (freshS h sz (sLen + n) T).2 w' ∧ Fr base w0 w' ∧ den0 ρ Φ' (freshS h sz (sLen + n) T).1 = some r ∧ (Builtin.append_ ats ty #[.slice b sLen sCap, .slice x n xc]).run C.P w0 = .ok r w' := by
  have hzc : zx.cells.size = sz := by
    have := (cells_den (ofV_den (ρ := ρ) hzv Φ)).1
    rw [this, hzs]
  have hby2 : (sLen + n) * i.bytes ≤ 2097152 * 1048576 := Nat.mul_le_mul hN hby
  have hfit : Builtin.nextslicecap (sLen + n) sCap * i.bytes ≤ 281474976710656 := growslice_fits hg (by omega)
  have hrun := app_grows (C := C) (ty := ty) h0' h1 hu hu' hi hz hold hnew hg (by omega) hfit
  obtain ⟨Φ', k1, k2, k3⟩ := grow_run (e := e) (drew_run H1) hos hvs hzc (grownCap_ge w0 (sLen + n) sCap e) ho hn
  refine ⟨_, _, Φ', k1, k2, ?_, k3, hrun⟩
  have hfa := Fr.alloc (w := w0.drew) H0.bs (.cells (os.toArray ++ vs.toArray ++ Builtin.zeroCells zx.cells (grownCap w0 (sLen + n) sCap e - (sLen + n))) e)
  exact ⟨hfa.size, hfa.old, hfa.frz, rfl, rfl⟩

/-- A slice of unknown capacity that grows where it lies: the old block isn't told of any more. -/
theorem fits_dead (H1 : HR C.odd ρ Φ base h w) {ats : Array TypeId} {ty tt tt' e e' : TypeId} {j m sz off len n K : Nat} {L : Loc} {t T : Tr V} {x : Option Addr} {xc : Nat} {vs : List Value}
    (h0 : ats[0]? = some tt) (h1 : ats[1]? = some tt') (hu : C.P.underlying tt = some (.slice e)) (hu' : C.P.underlying tt' = some (.slice e')) (hsz : sizeT C e = some sz)
    (hnew : (Builtin.firstCells sz n (.slice x n xc)).run C.P w = .ok vs.toArray w)
    (hj : Φ j = some L) (ho : h.t.get j = some (.cells false m sz t)) (hK : off + K * sz ≤ L.K * L.sz) (hlen : len + n ≤ K) (hm : ∀ i, i < len * sz → off + i < m)
    (hvs : vs.length = n * sz) (h1c : ∀ v ∈ vs, v.oneCell' = true) (hT1 : ∀ i, i < len * sz → T.get i = t.get (off + i)) (hT2 : ∀ i, i < n * sz → ∃ v x, T.get (len * sz + i) = some v ∧ denC ρ Φ v = some x ∧ vs[i]? = some x) :
    ∃ r w' Φ', Fw Φ h.n Φ' (freshS (h.set j .dead) sz (len + n) T).2.n ∧ HR C.odd ρ Φ' base (freshS (h.set j .dead) sz (len + n) T).2 w' ∧ Fr base w w' ∧ den0 ρ Φ' (freshS (h.set j .dead) sz (len + n) T).1 = some r ∧ (Builtin.append_ ats ty #[.slice (some (L.at_ off)) len K, .slice x n xc]).run C.P w = .ok r w' := by
  obtain ⟨g1, g2, g3, cs, ce, fz, g4, hfz, g5, g6⟩ := H1.cells hj ho
  obtain rfl := hfz rfl
  have e1 : (len + n) * sz = len * sz + n * sz := Nat.add_mul _ _ _
  have e2 : (len + n) * sz ≤ K * sz := Nat.mul_le_mul_right _ hlen
  obtain ⟨w', cs', s1, s2, s3, s4, s5, s6, s7, s8, s9⟩ := store_raw (C := C) (w := w) (b := L.blk) (o := L.d + (off + len * sz)) (vs := vs) g4 (by omega) h1c
  have hst : (storeCells ((L.at_ off).add (len * sz)) vs).run C.P w = .ok () w' := by rw [at_add]; exact s1
  have hrun := app_fits (C := C) (ty := ty) (b := some (L.at_ off)) h0 h1 hu hu' hsz hnew hlen hst
  obtain ⟨Φ', k1, k2, k3⟩ := killed_run H1 (len := len + n) (off := off) (K := K) (t' := T) (cs := cs') hj ho s2 s3 s4 hlen (by omega) (fun i hi => by
    by_cases hlt : i < len * sz
    · obtain ⟨v, y, a1, a2, a3⟩ := g6 (off + i) (hm i hlt)
      refine ⟨v, y, by rw [hT1 i hlt]; exact a1, a2, ?_⟩
      rw [s7 _ (by omega), ← a3]
      congr 1; omega
    · obtain ⟨v, y, a1, a2, a3⟩ := hT2 (i - len * sz) (by omega)
      refine ⟨v, y, by rw [← a1]; congr 1; omega, a2, ?_⟩
      rw [← a3, ← s6 (i - len * sz) (by omega)]
      congr 1; omega)
  refine ⟨_, w', Φ', k1, k2, ⟨by omega, fun b hb => s3 b (by have := g3 rfl; omega), frz_swap s3 g4 s4 (soft_cells _ _) (soft_cells _ _), s8, s9⟩, k3, hrun⟩
theorem cap_sub {K q l sz : Nat} (h : q + l ≤ K) : q * sz + l * sz + (K - q - l) * sz = K * sz := by
  rw [← Nat.add_mul, ← Nat.add_mul]; congr 1; omega
theorem off_div {off sz : Nat} (h : off % sz = 0) : off / sz * sz = off := by
  have := Nat.div_add_mod off sz
  rw [h, Nat.mul_comm] at this; omega
/-- What the evaluator says of append is so. -/
theorem append_run (H1 : HR C.odd ρ Φ base h w) {ats : Array TypeId} {ty tt tt' e e' : TypeId} (h0 : ats[0]? = some tt) (h1 : ats[1]? = some tt') (hu : C.P.underlying tt = some (.slice e)) (hu' : C.P.underlying tt' = some (.slice e'))
    {s x v : V} {s' x' : Value} {h' : H} (hs : denA ρ Φ s = some s') (hx : denA ρ Φ x = some x') (hv : appendV C h e s x = some (v, h')) :
    ∃ r w' Φ', Fw Φ h.n Φ' h'.n ∧ HR C.odd ρ Φ' base h' w' ∧ Fr base w w' ∧ den0 ρ Φ' v = some r ∧ (Builtin.append_ ats ty #[s', x']).run C.P w = .ok r w' := by
  unfold appendV at hv
  replace hv := ob_some hv
  obtain ⟨sz, hsz, hv⟩ := hv
  replace hv := ob_some hv
  obtain ⟨by_, hby, hv⟩ := hv
  replace hv := ob_some hv
  obtain ⟨n, hn, hv⟩ := hv
  replace hv := ob_some hv
  obtain ⟨z, hz, hv⟩ := hv
  replace hv := guardO_some hv
  obtain ⟨hg, hv⟩ := hv
  replace hv := ob_some hv
  obtain ⟨q, hq, hv⟩ := hv
  simp only [Bool.and_eq_true, Bool.not_eq_true', Bool.or_eq_false_iff] at hg
  obtain ⟨⟨⟨⟨hg1, hg2⟩, hg3⟩, hg4⟩, hg5⟩ := hg
  have hzs : z.size = sz := Nat.eq_of_beq_eq_true hg5
  have hszp : 0 < sz := Nat.pos_of_ne_zero (Nat.ne_of_beq_eq_false hg1)
  have hbyle : by_ ≤ 1048576 := by
    rcases Nat.lt_or_ge 1048576 by_ with hlt | hge
    · have : Nat.blt 1048576 by_ = true := Nat.ble_eq_true_of_le hlt
      rw [this] at hg3; cases hg3
    · exact hge
  have hnle : n ≤ 1048576 := by
    rcases Nat.lt_or_ge 1048576 n with hlt | hge
    · have : Nat.blt 1048576 n = true := Nat.ble_eq_true_of_le hlt
      rw [this] at hg4; cases hg4
    · exact hge
  obtain ⟨i, zx, hi, hisz, hiby, hiz, hzx⟩ := infoT hsz hby hz
  obtain ⟨xa, xc, rfl⟩ := lenOf_den hn hx
  obtain ⟨vs, hvs, hnew⟩ := first_run H1 hq hx ⟨_, _, _, rfl⟩
  obtain ⟨vs2, hvs2, hnew2⟩ := first_run (drew_run H1) hq hx ⟨_, _, _, rfl⟩
  rw [hvs] at hvs2; cases hvs2
  obtain ⟨hvl, hvg⟩ := denRow_some hvs
  have hcell := row_cells hvs
  have hnew2' : (Builtin.firstCells i.size n (.slice xa n xc)).run C.P w.drew = .ok vs.toArray w.drew := by rw [hisz]; exact hnew2
  have fresh0 : ∀ {T : Tr V}, q.1.cpy (n * sz) q.2 .nil 0 = some T → ∀ k, k < n * sz → ∃ v x, T.get k = some v ∧ denC ρ Φ v = some x ∧ vs[k]? = some x := fun {T} hT k hk => by
    obtain ⟨u, y, a1, a2, a3⟩ := hvg k hk
    refine ⟨u, y, ?_, a2, a3⟩
    rw [((Tr.cpy_some _ _ _ _ _ hT k).1 ⟨by omega, by omega⟩).1, ← a1]
    congr 1
  unfold appK at hv
  split at hv
  · -- nil
    cases hs
    rw [boolRec_eq] at hv
    split at hv
    · rename_i h0n
      cases hv
      have h0n := Nat.eq_of_beq_eq_true h0n
      subst h0n
      exact ⟨_, w, Φ, Fw.refl Φ _, H1, Fr.refl base w, rfl, app_fits (C := C) (ty := ty) (b := none) h0 h1 hu hu' hsz hnew (Nat.le_refl _) rfl⟩
    · rename_i h0n
      have h0n : n ≠ 0 := fun e => h0n (by subst e; rfl)
      replace hv := om_some hv
      obtain ⟨T, hT, hv⟩ := hv
      cases hv
      have hr := grows_run (ty := ty) (T := T) H1 H1 h0 h1 hu hu' hi hisz hiz hzx hzs (sLen := 0) (sCap := 0) (b := none) (os := []) rfl hnew2' (by omega) (by omega) (by omega) (by simp) hvl (fun k hk => by omega) (fun k hk => by
        rw [Nat.zero_mul, Nat.zero_add]; exact fresh0 hT k hk)
      rw [Nat.zero_add] at hr
      exact hr
  · -- what is left behind
    rename_i j off l
    simp only [denA, denC, den0] at hs
    obtain ⟨L, hL, hs⟩ := Option.map_eq_some_iff.1 hs
    rw [boolRec_eq] at hv
    split at hv
    · rename_i h0n
      cases hv
      have h0n := Nat.eq_of_beq_eq_true h0n
      subst h0n
      have hd : den0 ρ Φ (.se j off l) = some s' := by simp only [den0, hL, Option.map_some, hs]
      have hnil : vs = [] := List.eq_nil_of_length_eq_zero (by rw [hvl]; simp)
      subst hnil
      have : ∃ a c, s' = .slice (some a) 0 c := by
        rw [← hs]
        split
        · exact ⟨_, _, rfl⟩
        · exact ⟨_, _, rfl⟩
      obtain ⟨a, c, e3⟩ := this
      refine ⟨s', w, Φ, Fw.refl Φ _, H1, Fr.refl base w, hd, ?_⟩
      rw [e3]
      exact app_fits (C := C) (ty := ty) (b := some a) h0 h1 hu hu' hsz hnew (by omega) (by rfl)
    · rename_i h0n
      have h0n : n ≠ 0 := fun e => h0n (by subst e; rfl)
      replace hv := ob_some hv
      obtain ⟨o, ho, hv⟩ := hv
      unfold seO at hv
      split at hv
      · rename_i ro m zz t
        replace hv := guardO_some hv
        obtain ⟨hgg, hv⟩ := hv
        simp only [Bool.and_eq_true, Bool.not_eq_true'] at hgg
        obtain ⟨⟨hro, hzz⟩, hmod⟩ := hgg
        subst hro
        have hzz : zz = sz := Nat.eq_of_beq_eq_true hzz
        subst hzz
        have hmod : off % zz = 0 := Nat.eq_of_beq_eq_true hmod
        replace hv := om_some hv
        obtain ⟨T, hT, hv⟩ := hv
        cases hv
        have hLsz : L.sz = zz := (H1.cells hL ho).1
        have grows : ∀ (a : Addr) (c : Nat), c < n → ∃ r w' Φ', Fw Φ h.n Φ' (freshS (h.set j .dead) zz n T).2.n ∧ HR C.odd ρ Φ' base (freshS (h.set j .dead) zz n T).2 w' ∧ Fr base w w' ∧ den0 ρ Φ' (freshS (h.set j .dead) zz n T).1 = some r ∧ (Builtin.append_ ats ty #[.slice (some a) 0 c, .slice xa n xc]).run C.P w = .ok r w' := fun a c hc => by
          have hr := grows_run (ty := ty) (T := T) H1 (dead_run H1 hL ho rfl) h0 h1 hu hu' hi hisz hiz hzx hzs (sLen := 0) (sCap := c) (b := some a) (os := []) (by simp only [Builtin.firstCells, Nat.zero_mul]; rfl) hnew2' (by omega) (by omega) (by omega) (by simp) hvl (fun k hk => by omega) (fun k hk => by
            rw [Nat.zero_mul, Nat.zero_add]; exact fresh0 hT k hk)
          rw [Nat.zero_add] at hr
          exact hr
        split at hs
        · rw [← hs]; exact grows _ _ (by omega)
        · rw [← hs]
          rcases Nat.lt_or_ge (L.K - off / L.sz - l) n with hc | hc
          · exact grows _ _ hc
          · rw [hLsz] at hc ⊢
            have hK := cap_sub (K := L.K) (q := off / zz) (l := l) (sz := zz) (by omega)
            rw [off_div hmod] at hK
            have hr := fits_dead (ty := ty) (T := T) (off := off + l * zz) (len := 0) (K := L.K - off / zz - l) H1 h0 h1 hu hu' hsz hnew hL ho (by rw [hLsz]; omega) (by omega) (fun k hk => by omega) hvl hcell (fun k hk => by omega) (fun k hk => by
              rw [Nat.zero_mul, Nat.zero_add]; exact fresh0 hT k hk)
            rw [Nat.zero_add] at hr
            exact hr
      · cases hv
  · -- a slice
    rename_i j off len c
    replace hv := guardO_some hv
    obtain ⟨hle, hv⟩ := hv
    have hle : len + n ≤ 1048576 := Nat.le_of_ble_eq_true hle
    replace hv := ob_some hv
    obtain ⟨o, ho, hv⟩ := hv
    unfold appO at hv
    split at hv
    · rename_i ro m zz t
      replace hv := guardO_some hv
      obtain ⟨hgg, hv⟩ := hv
      simp only [Bool.and_eq_true, Bool.not_eq_true'] at hgg
      obtain ⟨⟨⟨hro, hzz⟩, hmod⟩, hm⟩ := hgg
      subst hro
      have hzz : zz = sz := Nat.eq_of_beq_eq_true hzz
      subst hzz
      have hmod : off % zz = 0 := Nat.eq_of_beq_eq_true hmod
      have hm : off + len * zz ≤ m := Nat.le_of_ble_eq_true hm
      have : ∃ L cap, Φ j = some L ∧ s' = .slice (some (L.at_ off)) len cap ∧ ((∃ cc, c = some cc ∧ cap = cc) ∨ (c = none ∧ cap = L.K - off / L.sz)) := by
        simp only [denA, denC] at hs
        cases c <;> simp only [den0] at hs <;> obtain ⟨L, hL, rfl⟩ := Option.map_eq_some_iff.1 hs
        · exact ⟨L, _, hL, rfl, .inr ⟨rfl, rfl⟩⟩
        · exact ⟨L, _, hL, rfl, .inl ⟨_, rfl, rfl⟩⟩
      obtain ⟨L, cap, hL, rfl, hcap⟩ := this
      have hLsz : L.sz = zz := (H1.cells hL ho).1
      obtain ⟨os, hos, hold⟩ := cells_run (C := C) (H1.cells hL ho) (off := off) (k := len * zz) hm
      obtain ⟨os2, hos2, hold2⟩ := cells_run (C := C) ((drew_run H1).cells hL ho) (off := off) (k := len * zz) hm
      rw [hos] at hos2; cases hos2
      obtain ⟨hol, hog⟩ := denRow_some hos
      have hold2' : (Builtin.firstCells i.size len (.slice (some (L.at_ off)) len cap)).run C.P w.drew = .ok os.toArray w.drew := by rw [hisz]; exact hold2
      have place : ∀ {hh : H} {cc : Option Nat}, len + n ≤ cap → copyO h j (off + len * zz) (n * zz) q.1 q.2 (.cells false m zz t) = some hh → den0 ρ Φ (.sl j off (len + n) cc) = some (.slice (some (L.at_ off)) (len + n) cap) →
          ∃ r w' Φ', Fw Φ h.n Φ' hh.n ∧ HR C.odd ρ Φ' base hh w' ∧ Fr base w w' ∧ den0 ρ Φ' (.sl j off (len + n) cc) = some r ∧ (Builtin.append_ ats ty #[.slice (some (L.at_ off)) len cap, .slice xa n xc]).run C.P w = .ok r w' := fun {hh cc} hc hcp hd => by
        obtain ⟨w', k1, k2, k3⟩ := copyO_run H1 hL ho hvs hcp
        have hst : (storeCells ((L.at_ off).add (len * zz)) vs).run C.P w = .ok () w' := by rw [at_add]; exact k1
        exact ⟨_, w', Φ, Fw.same (copyO_n hcp), k2, k3, hd, app_fits (C := C) (ty := ty) (b := some (L.at_ off)) h0 h1 hu hu' hsz hnew hc hst⟩
      have grows : ∀ {hh : H} {T : Tr V}, hh.n = h.n → HR C.odd ρ Φ base hh w → cap < len + n → (∀ k, k < len * zz → T.get k = t.get (off + k)) → (∀ k, k < n * zz → T.get (len * zz + k) = q.1.get (q.2 + k)) →
          ∃ r w' Φ', Fw Φ h.n Φ' (freshS hh zz (len + n) T).2.n ∧ HR C.odd ρ Φ' base (freshS hh zz (len + n) T).2 w' ∧ Fr base w w' ∧ den0 ρ Φ' (freshS hh zz (len + n) T).1 = some r ∧ (Builtin.append_ ats ty #[.slice (some (L.at_ off)) len cap, .slice xa n xc]).run C.P w = .ok r w' := fun {hh T} hhn H2 hc hT1 hT2 => by
        rw [← hhn]
        exact grows_run (ty := ty) (T := T) H1 H2 h0 h1 hu hu' hi hisz hiz hzx hzs hold2' hnew2' hc (by omega) (by omega) hol hvl (fun k hk => by
          obtain ⟨u, y, a1, a2, a3⟩ := hog k hk
          exact ⟨u, y, by rw [hT1 k hk]; exact a1, a2, a3⟩) (fun k hk => by
          obtain ⟨u, y, a1, a2, a3⟩ := hvg k hk
          exact ⟨u, y, by rw [hT2 k hk]; exact a1, a2, a3⟩)
      rcases hcap with ⟨cc, rfl, rfl⟩ | ⟨rfl, hcap⟩
      · change (Bool.rec _ _ _ : Option (V × H)) = _ at hv
        rw [boolRec_eq] at hv
        split at hv
        · rename_i hfit
          replace hv := om_some hv
          obtain ⟨hh, hcp, hv⟩ := hv
          cases hv
          exact place (Nat.le_of_ble_eq_true hfit) hcp (by simp only [den0, hL, Option.map_some])
        · rename_i hfit
          obtain ⟨T, hT, hT1, hT2⟩ := growS_some hv
          have e4 : v = (freshS h zz (len + n) T).1 ∧ h' = (freshS h zz (len + n) T).2 := by rw [← hT]; exact ⟨rfl, rfl⟩
          rw [e4.1, e4.2]
          exact grows rfl H1 (Nat.lt_of_not_le fun hh => hfit (Nat.ble_eq_true_of_le hh)) hT1 hT2
      · have hmK : m ≤ L.K * L.sz := (H1.cells hL ho).2.1
        have hK : ∀ k, k ≤ L.K - off / L.sz → off / zz ≤ L.K → off + k * zz ≤ L.K * zz := fun k hk hq => by
          have h2 : (off / zz + k) * zz ≤ L.K * zz := Nat.mul_le_mul_right _ (by rw [hLsz] at hk; omega)
          rw [Nat.add_mul, off_div hmod] at h2
          exact h2
        change (Bool.rec _ _ _ : Option (V × H)) = _ at hv
        rw [boolRec_eq] at hv
        split at hv
        · rename_i hfit
          have hfit : off + (len + n) * zz ≤ m := Nat.le_of_ble_eq_true hfit
          have hc : len + n ≤ cap := by
            have h2 : (off / zz + (len + n)) * zz ≤ L.K * zz := by rw [Nat.add_mul, off_div hmod, ← hLsz]; rw [← hLsz] at hfit; omega
            have h3 := Nat.le_of_mul_le_mul_right h2 hszp
            rw [hcap, hLsz]; omega
          replace hv := om_some hv
          obtain ⟨hh, hcp, hv⟩ := hv
          cases hv
          exact place hc hcp (by simp only [den0, hL, Option.map_some, hcap])
        · obtain ⟨T, hT, hT1, hT2⟩ := growS_some hv
          have e4 : v = (freshS (h.set j .dead) zz (len + n) T).1 ∧ h' = (freshS (h.set j .dead) zz (len + n) T).2 := by rw [← hT]; exact ⟨rfl, rfl⟩
          rw [e4.1, e4.2]
          rcases Nat.lt_or_ge cap (len + n) with hc | hc
          · exact grows rfl (dead_run H1 hL ho rfl) hc hT1 hT2
          · refine fits_dead (ty := ty) (T := T) (off := off) (len := len) (K := cap) H1 h0 h1 hu hu' hsz hnew hL ho ?_ hc (fun k hk => by omega) hvl hcell hT1 (fun k hk => ?_)
            · by_cases h4 : off / zz ≤ L.K
              · rw [hLsz]; exact hK cap (by omega) h4
              · exfalso
                have h5 : L.K * zz < off := by
                  have h6 : (L.K + 1) * zz ≤ off / zz * zz := Nat.mul_le_mul_right _ (by omega)
                  rw [off_div hmod, Nat.add_mul] at h6; omega
                have h7 : len * zz = 0 ∨ 0 < len * zz := by omega
                rw [hLsz] at hmK
                omega
            · obtain ⟨u, y, a1, a2, a3⟩ := hvg k hk
              exact ⟨u, y, by rw [hT2 k hk]; exact a1, a2, a3⟩
    · cases hv
  · cases hv
end
end Go.Proofs.YtolheapnopmhgaaGreatDoor
