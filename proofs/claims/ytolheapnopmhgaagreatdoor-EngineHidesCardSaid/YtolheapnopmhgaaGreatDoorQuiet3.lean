/- The same, on: whether two values are the same. -/
import Derived.Test.YtolheapnopmhgaaGreatDoorQuiet2
import Derived.Laws.StructEq
import Derived.LaidEql
set_option linter.all false
namespace Go.Proofs.YtolheapnopmhgaaGreatDoor
open Go

section
variable {C : Ctx} {ρ : Sym} {Φ : Env} {base : Nat} {h : H} {w : World}

theorem denRow_sub {t : Tr V} {n off : Nat} {l : List Value} (hl : denRow ρ Φ t off n = some l) (i k : Nat) (hk : i + k ≤ n) : denRow ρ Φ t (off + i) k = some ((l.drop i).take k) := by
  obtain ⟨h1, h2⟩ := denRow_some hl
  rw [denRow_of (fun j => (l[i + j]?).getD undef) k (off + i) (fun j hj => by
    obtain ⟨v, x, h3, h4, h5⟩ := h2 (i + j) (by omega)
    exact ⟨v, by rw [← h3]; congr 1; omega, by rw [h5]; exact h4⟩)]
  congr 1
  apply List.ext_getElem?
  intro j
  rw [List.getElem?_map, List.getElem?_take, List.getElem?_drop]
  by_cases hj : j < k
  · have hlt : i + j < l.length := by omega
    rw [List.getElem?_range hj, if_pos hj]; simp [hlt]
  · rw [if_neg hj, List.getElem?_eq_none (by simpa using hj)]; rfl
theorem partV_run {t : TypeId} {c : Tr V} {off n at_ : Nat} {v : V} {l : List Value} (hl : denRow ρ Φ c off n = some l) (hv : partV C t c off n at_ = some v) :
    ∃ x, denA ρ Φ v = some x ∧ ∀ w, (part t l.toArray at_).run C.P w = .ok x w := by
  unfold partV at hv
  obtain ⟨b, hb, hv⟩ := ob_some hv
  obtain ⟨h1, h2⟩ := denRow_some hl
  cases b with
  | true =>
    have hv : ob (sizeT C t) (fun k => guardO (Nat.ble (at_ + k) n) (some (V.agg c (off + at_) k))) = some v := hv
    obtain ⟨k, hk, hv⟩ := ob_some hv
    obtain ⟨hle, hv⟩ := guardO_some hv
    cases hv
    have hle : at_ + k ≤ n := Nat.le_of_ble_eq_true hle
    refine ⟨.agg ((l.drop at_).take k).toArray, by simp only [denA, denRow_sub hl at_ k hle, Option.map_some], fun w => ?_⟩
    unfold part
    rw [Sem.run_bind, aggT_run hb, Result.andThen]
    simp only [if_true]
    rw [Sem.run_bind, sizeT_run hk, Result.andThen]
    have : l.toArray.extract at_ (at_ + k) = ((l.drop at_).take k).toArray := by simp
    rw [this]; rfl
  | false =>
    have hv : guardO (Nat.blt at_ n) (c.get (off + at_)) = some v := hv
    obtain ⟨hle, hv⟩ := guardO_some hv
    have hle : at_ < n := by simpa [Nat.blt_eq] using hle
    obtain ⟨u, x, h3, h4, h5⟩ := h2 at_ hle
    rw [hv] at h3; cases h3
    refine ⟨x, denA_ofC h4, fun w => ?_⟩
    unfold part
    rw [Sem.run_bind, aggT_run hb, Result.andThen]
    simp [h5]

def EqOk (C : Ctx) (ρ : Sym) (Φ : Env) (d : Nat) : Prop := ∀ (t : TypeId) (x y : V) (b : Bool) (x' y' : Value), eqV C d t x y = some b → denA ρ Φ x = some x' → denA ρ Φ y = some y' → ∀ m w, (Op.equalIn (d + m) t x' y').run C.P w = .ok b w

theorem eqFields_run {d : Nat} (hd : EqOk C ρ Φ d) {a b : Tr V} {ao an bo bn : Nat} {la lb : List Value} (ha : denRow ρ Φ a ao an = some la) (hb : denRow ρ Φ b bo bn = some lb) (m : Nat) (w : World) :
    ∀ (fs : List Field) (r : Bool), eqFields C (eqV C d) a ao an b bo bn fs = some r → (Op.eqFields (d + m) la.toArray lb.toArray fs).run C.P w = .ok r w := by
  intro fs
  induction fs with
  | nil => intro r hr; cases hr; rfl
  | cons f fs ih =>
    intro r hr
    have hr : (Bool.rec (ob (partV C f.type a ao an f.offset) fun p => ob (partV C f.type b bo bn f.offset) fun q => ob (eqV C d f.type p q) fun r => Bool.rec (some false) (eqFields C (eqV C d) a ao an b bo bn fs) r) (eqFields C (eqV C d) a ao an b bo bn fs) (f.name == "_") : Option Bool) = some r := hr
    rw [boolRec_eq] at hr
    by_cases hn : (f.name == "_") = true
    · rw [if_pos hn] at hr
      have hn' : f.name = "_" := by simpa using hn
      simp only [Op.eqFields, hn', ne_eq, not_true_eq_false, if_false]
      exact ih r hr
    · rw [if_neg hn] at hr
      have hn' : f.name ≠ "_" := by simpa using hn
      obtain ⟨p, hp, hr⟩ := ob_some hr
      obtain ⟨q, hq, hr⟩ := ob_some hr
      obtain ⟨s, hs, hr⟩ := ob_some hr
      obtain ⟨x, hx, hxr⟩ := partV_run ha hp
      obtain ⟨y, hy, hyr⟩ := partV_run hb hq
      have he := hd _ _ _ _ _ _ hs hx hy m w
      simp only [Op.eqFields, hn', ne_eq, not_false_eq_true, if_true, Sem.run_bind, hxr, hyr, Result.andThen, he]
      cases s with
      | true => simpa using ih r hr
      | false => cases hr; simp
theorem eqV_zero : EqOk C ρ Φ 0 := fun t x y b x' y' h => by cases h
theorem eqV_succ {d : Nat} (hd : EqOk C ρ Φ d) : EqOk C ρ Φ (d + 1) := by
  intro t x y b x' y' he hx hy m w
  change ob (C.P.underlying t) (eqU C (eqV C d) t x y) = some b at he
  replace he := ob_some he
  obtain ⟨u, hu, he⟩ := he
  rw [show d + 1 + m = (d + m) + 1 by omega]
  cases u <;> simp only [eqU] at he <;> first | (cases he; done) | skip
  case bool =>
    unfold eqBool at he
    split at he
    · simp only [denA, denC, den0, Option.some.injEq] at hx hy
      subst hx hy
      cases he
      rename_i p q
      cases p <;> cases q <;> simp [Op.equalIn, under_run hu, Result.andThen]
    · cases he
  case int k =>
    unfold eqInt at he
    split at he
    · simp only [denA, denC, den0, Option.some.injEq] at hx hy
      subst hx hy
      replace he := guardO_some he
      obtain ⟨hk, he⟩ := he
      cases he
      cases kN_inj hk
      simp [Op.equalIn, under_run hu, Result.andThen, eqI_eq]
    · simp only [denA, denC, den0, Option.some.injEq] at hx hy
      replace he := guardO_some he
      obtain ⟨hk, he⟩ := he
      cases he
      cases Nat.eq_of_beq_eq_true hk
      subst hx hy
      simp [Op.equalIn, under_run hu, Result.andThen]
    · cases he
  case string =>
    unfold eqStr at he
    split at he
    · simp only [denA, denC, den0, Option.some.injEq] at hx hy
      subst hx hy
      cases he
      simp only [Op.equalIn, Sem.run_bind, under_run hu, Result.andThen]
      rename_i p q
      have : eqS p q = (p == q) := by unfold eqS; rw [eqBy_eq, ← toList_data, ← toList_data, beq_toListBytes]
      rw [this]; rfl
    · cases he
  case pointer e =>
    unfold eqPt at he
    split at he <;> first | (cases he; done) | skip
    · cases hx; cases hy; cases he; simp [Op.equalIn, under_run hu, Result.andThen]
    · simp only [denA, denC, den0] at hx hy
      obtain ⟨L, _, rfl⟩ := Option.map_eq_some_iff.1 hy
      cases hx; cases he; simp [Op.equalIn, under_run hu, Result.andThen]
    · simp only [denA, denC, den0] at hx hy
      obtain ⟨L, _, rfl⟩ := Option.map_eq_some_iff.1 hx
      cases hy; cases he; simp [Op.equalIn, under_run hu, Result.andThen]
    · simp only [denA, denC, den0] at hx hy
      obtain ⟨L, hL, rfl⟩ := Option.map_eq_some_iff.1 hx
      obtain ⟨L', hL', rfl⟩ := Option.map_eq_some_iff.1 hy
      unfold eqPtr at he
      replace he := ob_some he
      obtain ⟨n, hn, he⟩ := he
      replace he := guardO_some he
      obtain ⟨hg, he⟩ := he
      simp only [Bool.and_eq_true, Bool.not_eq_true'] at hg
      cases Nat.eq_of_beq_eq_true hg.2
      rw [hL] at hL'; cases hL'
      cases he
      have hn0 : n ≠ 0 := fun e => by subst e; simp at hg
      rename_i j o o'
      simp only [Op.equalIn, Sem.run_bind, under_run hu, Result.andThen, sizeT_run hn, ne_eq, hn0, not_false_eq_true, if_true]
      by_cases hoo : o = o'
      · subst hoo; rw [run_sameAddr_same]; simp
      · have : Nat.beq o o' = false := by cases hb : Nat.beq o o' with
          | false => rfl
          | true => exact absurd (Nat.eq_of_beq_eq_true hb) hoo
        rw [this]
        have hne : L.at_ o ≠ L.at_ o' := fun e => by simp [Loc.at_] at e; omega
        simp [sameAddr, Loc.at_, hoo]
  case slice e =>
    unfold eqSl at he
    split at he
    · cases hx; cases hy; cases he; simp [Op.equalIn, under_run hu, Result.andThen]
    · rename_i j off len c
      cases hy; cases he
      simp only [denA, denC] at hx
      cases c <;> simp only [den0] at hx <;> obtain ⟨L, _, rfl⟩ := Option.map_eq_some_iff.1 hx <;> simp [Op.equalIn, under_run hu, Result.andThen]
    · cases hy; cases he
      simp only [denA, denC, den0] at hx
      obtain ⟨L, _, rfl⟩ := Option.map_eq_some_iff.1 hx
      split <;> simp [Op.equalIn, under_run hu, Result.andThen]
    · cases he
  case map k e =>
    unfold eqMp at he
    split at he
    · cases hx; cases hy; cases he; simp [Op.equalIn, under_run hu, Result.andThen]
    · cases hy; cases he
      simp only [denA, denC, den0] at hx
      obtain ⟨L, _, rfl⟩ := Option.map_eq_some_iff.1 hx
      simp [Op.equalIn, under_run hu, Result.andThen]
    · cases he
  case func p r v =>
    unfold eqFc at he
    split at he
    · cases hx; cases hy; cases he; simp [Op.equalIn, under_run hu, Result.andThen]
    · cases hy; cases he
      simp only [denA, denC] at hx
      obtain ⟨g, _, hx⟩ := Option.bind_eq_some_iff.1 hx
      obtain ⟨a, _, hx⟩ := Option.bind_eq_some_iff.1 hx
      obtain ⟨c, _, rfl⟩ := Option.map_eq_some_iff.1 hx
      simp [Op.equalIn, under_run hu, Result.andThen]
    · cases he
  case struct fs =>
    unfold eqSt at he
    split at he
    · obtain ⟨hst, he⟩ := guardO_some he
      simp only [denA] at hx hy
      obtain ⟨la, hla, rfl⟩ := Option.map_eq_some_iff.1 hx
      obtain ⟨lb, hlb, rfl⟩ := Option.map_eq_some_iff.1 hy
      have hfo : C.P.fieldsOf t = fs := by simp [Program.fieldsOf, hu]
      rw [run_equalIn_struct w _ _ _ _ (by rw [hfo]; exact hu) (by simpa using hst), hfo]
      exact eqFields_run hd hla hlb m w _ _ he
    · cases he
end
end Go.Proofs.YtolheapnopmhgaaGreatDoor
