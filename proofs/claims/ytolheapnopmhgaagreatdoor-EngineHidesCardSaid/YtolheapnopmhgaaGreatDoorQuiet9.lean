/- The same, on structs and arrays that are built. -/
import Derived.Test.YtolheapnopmhgaaGreatDoorQuiet8
import Derived.Laws.Tables
set_option linter.all false
namespace Go.Proofs.YtolheapnopmhgaaGreatDoor
open Go

section
variable {C : Ctx} {ρ : Sym} {Φ : Env} {base : Nat} {h : H} {w : World}

theorem sizesB_places : ∀ {l : List Field}, sizesB C l = true → ∃ places, l.mapM (fun f => (C.P.info? f.type).map fun i => (f.offset, i.size)) = some places ∧ ∀ (i : Nat) (f : Field) (n : Nat), l[i]? = some f → sizeT C f.type = some n → places[i]? = some (f.offset, n) := by
  intro l
  induction l with
  | nil => intro _; exact ⟨[], rfl, fun i f n hf => by simp at hf⟩
  | cons f l ih =>
    intro hs
    change ((sizeT C f.type).isSome && sizesB C l) = true at hs
    simp only [Bool.and_eq_true] at hs
    obtain ⟨places, h1, h2⟩ := ih hs.2
    obtain ⟨n, hn⟩ := Option.isSome_iff_exists.1 hs.1
    have hn' := hn
    unfold sizeT at hn
    obtain ⟨i, hi, rfl⟩ := Option.map_eq_some_iff.1 hn
    refine ⟨(f.offset, i.size) :: places, by simp [List.mapM_cons, hi, h1], fun k g m hg hm => ?_⟩
    cases k with
    | zero => simp at hg; subst hg; rw [hn'] at hm; cases hm; rfl
    | succ k => simpa using h2 k g m (by simpa using hg) hm
theorem denRow_part {t : Tr V} {n : Nat} {l : List Value} (hl : denRow ρ Φ t 0 n = some l) : PartR ρ Φ t n l.toArray := by
  obtain ⟨h1, h2⟩ := denRow_some hl
  refine ⟨by simpa using h1, fun j v hj hv => ?_⟩
  obtain ⟨u, x, h3, h4, h5⟩ := h2 j hj
  rw [show 0 + j = j by omega, hv] at h3
  cases h3
  exact ⟨x, h4, by simpa using h5⟩
theorem part_denRow {t : Tr V} {n : Nat} {arr : Array Value} (hr : PartR ρ Φ t n arr) (ht : ∀ j, j < n → ∃ v, t.get j = some v) : denRow ρ Φ t 0 n = some arr.toList := by
  rw [denRow_of (fun j => (arr[j]?).getD undef) n 0 (fun j hj => by
    obtain ⟨v, hv⟩ := ht j hj
    obtain ⟨x, h1, h2⟩ := hr.2 j v hj hv
    exact ⟨v, by rw [show 0 + j = j by omega]; exact hv, by rw [h2]; exact h1⟩)]
  congr 1
  apply List.ext_getElem?
  intro j
  rw [List.getElem?_map]
  by_cases hj : j < n
  · rw [List.getElem?_range hj]
    have hlt : j < arr.size := by rw [hr.1]; exact hj
    simp [hlt]
  · have hle : arr.size ≤ j := by rw [hr.1]; omega
    rw [List.getElem?_eq_none (by simpa using hj), List.getElem?_eq_none (by simpa using hle)]; rfl
theorem build_run {pend : Nat → Prop} {A : A} {a : Act} (hg : GR C Φ) (ha : AR ρ Φ pend A a) {t : TypeId} {parts : Array (Nat × Operand)} {ps : List (Nat × V)} {z v : V} (hf : ∀ x ∈ parts.toList, free pend x.2)
    (hps : evParts C A parts.toList = some ps) (hz : zeroT C t = some z) (hv : qBuild C t ps z = some v) :
    ∃ r, denA ρ Φ v = some r ∧ (Instr.build t (parts.map fun (i, x) => (i, a.eval x))).run C.P w = .ok r w := by
  unfold qBuild at hv
  split at hv
  · rename_i c n
    replace hv := ob_some hv
    obtain ⟨u, hu, hv⟩ := hv
    have h2 := evParts_den (ρ := ρ) hg ha hf hps
    -- nought
    have hzero := hz
    unfold zeroT at hz
    replace hz := ob_some hz
    obtain ⟨it, hit, hz⟩ := hz
    replace hz := ob_some hz
    obtain ⟨zx, hzx, hz⟩ := hz
    have hzd : denA ρ Φ (.agg c 0 n) = some zx := ofV_den hz Φ
    simp only [denA] at hzd
    obtain ⟨l, hl, rfl⟩ := Option.map_eq_some_iff.1 hzd
    have hpart := denRow_part hl
    have htot : ∀ j, j < n → ∃ v, c.get j = some v := fun j hj => by
      obtain ⟨u, x, h3, _, _⟩ := (denRow_some hl).2 j hj
      exact ⟨u, by rw [← h3]; congr 1; omega⟩
    have hpl : (parts.map fun (i, x) => (i, a.eval x)).toList = parts.toList.map fun x => (x.1, a.eval x.2) := by simp
    unfold qBuildZ at hv
    split at hv
    · rename_i fs
      replace hv := guardO_some hv
      obtain ⟨hsz, hv⟩ := hv
      replace hv := om_some hv
      obtain ⟨c', hc', rfl⟩ := hv
      obtain ⟨places, hpl1, hpl2⟩ := sizesB_places hsz
      obtain ⟨arr', h3, h4, h5, _⟩ := layParts_fill (place' := fun i => places[i]?) (n := n) (fun i q hq => by
        replace hq := ob_some hq
        obtain ⟨f, hf1, hq⟩ := hq
        replace hq := guardO_some hq
        obtain ⟨hle, hq⟩ := hq
        cases hq
        obtain ⟨fs', f', k1, k2, k3, k4, _⟩ := fieldT_some hf1
        rw [hu] at k1; cases k1
        refine ⟨?_, Nat.le_of_ble_eq_true hle⟩
        rw [k4]; exact hpl2 i f' _ (by simpa using k2) k3) h2 hpart hc'
      refine ⟨.agg arr', ?_, run_build w t _ arr' ?_⟩
      · simp only [denA, part_denRow h4 (fun j hj => h5 j (htot j hj)), Option.map_some]
      · unfold Program.built
        simp only [hit, hu, hzx, hpl1]
        rw [hpl]
        simpa [Value.cells] using h3
    · rename_i len e
      replace hv := ob_some hv
      obtain ⟨sz, hsz, hv⟩ := hv
      replace hv := om_some hv
      obtain ⟨c', hc', rfl⟩ := hv
      obtain ⟨arr', h3, h4, h5, _⟩ := layParts_fill (place' := fun i => some (i * sz, sz)) (n := n) (fun i q hq => by
        replace hq := guardO_some hq
        obtain ⟨hle, hq⟩ := hq
        cases hq
        exact ⟨rfl, Nat.le_of_ble_eq_true hle⟩) h2 hpart hc'
      unfold sizeT at hsz
      obtain ⟨ie, hie, rfl⟩ := Option.map_eq_some_iff.1 hsz
      refine ⟨.agg arr', ?_, run_build w t _ arr' ?_⟩
      · simp only [denA, part_denRow h4 (fun j hj => h5 j (htot j hj)), Option.map_some]
      · unfold Program.built
        simp only [hit, hu, hzx, hie]
        rw [hpl]
        simpa [Value.cells] using h3
    · cases hv
  · cases hv
end
end Go.Proofs.YtolheapnopmhgaaGreatDoor
