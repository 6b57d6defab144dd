/- The same, on: conversions, slices of slices. -/
import Derived.Test.YtolheapnopmhgaaGreatDoorQuiet4
set_option linter.all false
namespace Go.Proofs.YtolheapnopmhgaaGreatDoor
open Go

section
variable {C : Ctx} {ρ : Sym} {Φ : Env} {base : Nat} {h : H} {w : World}

theorem unV_run {op : UnOp} {x v : V} {x' : Value} (hv : unV op x = some v) (hx : denA ρ Φ x = some x') : ∃ r, den0 ρ Φ v = some r ∧ (Op.unary op x').run C.P w = .ok r w := by
  unfold unV at hv
  split at hv
  · cases hx; cases hv; exact ⟨_, rfl, by simp [Op.unary]⟩
  · cases hx; cases hv; exact ⟨_, rfl, by simp only [Op.unary, Op.intArith, wrapI_eq]; rfl⟩
  · cases hx
    simp only [binI, Option.some.injEq] at hv
    subst hv
    exact ⟨_, rfl, by simp [Op.unary, Op.intBits]⟩
  · cases hv
theorem convV_run {s d : TypeId} {x v : V} {x' : Value} (hv : convV C s d x = some v) (hx : denA ρ Φ x = some x') : ∃ r, den0 ρ Φ v = some r ∧ (convert s d x').run C.P w = .ok r w := by
  unfold convV at hv
  replace hv := ob_some hv
  obtain ⟨us, hs, hv⟩ := hv
  replace hv := ob_some hv
  obtain ⟨ud, hd, hv⟩ := hv
  unfold convU at hv
  split at hv
  · unfold convI at hv
    split at hv
    · cases hx; cases hv
      refine ⟨_, rfl, ?_⟩
      unfold convert
      rw [Sem.run_bind, under_run hs, Result.andThen, Sem.run_bind, under_run hd, Result.andThen]
      simp [Conv.intToInt, wrapI_eq]
    · cases hv
  · unfold convS at hv
    split at hv
    · cases hx; cases hv
      refine ⟨_, rfl, ?_⟩
      unfold convert
      rw [Sem.run_bind, under_run hs, Result.andThen, Sem.run_bind, under_run hd, Result.andThen]
      simp
    · cases hv
  · cases hv

/-! Bounds. -/
def OptR (ρ : Sym) (Φ : Env) (o : Option V) (o' : Option Value) : Prop := match o, o' with
  | none, none => True
  | some v, some x => denA ρ Φ v = some x
  | _, _ => False
theorem natOf_den {v : V} {n : Nat} {x : Value} (hn : natOf v = some n) (hx : denA ρ Φ v = some x) : ∃ k, x = .int k n := by
  unfold natOf at hn
  split at hn
  · rename_i k m
    unfold natI at hn
    split at hn
    · cases hn; cases hx; exact ⟨k, rfl⟩
    · cases hn
  · cases hn
theorem bound_run {y n : Nat} {v : V} {x : Value} (hb : boundV y v = some n) (hx : denA ρ Φ v = some x) (code : BoundsCode) : n ≤ y ∧ (Instr.sliceBound x y code).run C.P w = .ok n w := by
  unfold boundV at hb
  replace hb := ob_some hb
  obtain ⟨m, hm, hb⟩ := hb
  replace hb := guardO_some hb
  obtain ⟨hle, hb⟩ := hb
  cases hb
  obtain ⟨k, rfl⟩ := natOf_den hm hx
  have hle : n ≤ y := Nat.le_of_ble_eq_true hle
  refine ⟨hle, ?_⟩
  simp [Instr.sliceBound, asIntOf, hle]
def BM (cap m : Nat) : Option V → Prop
  | none => m = cap
  | some v => ∃ y, y ≤ cap ∧ boundV y v = some m
def BH (mx : Option V) (len m r : Nat) : Option V → Prop
  | none => mx = none ∧ r = len
  | some v => ∃ y, y ≤ m ∧ boundV y v = some r
/-- The three bounds of a slice expression: m is what the third one comes to. -/
theorem bounds_run {isS : Bool} {len cap m r l : Nat} {lo hi mx : Option V} {lo' hi' mx' : Option Value} (hlo : OptR ρ Φ lo lo') (hhi : OptR ρ Φ hi hi') (hmx : OptR ρ Φ mx mx')
    (hm : BM cap m mx) (hr : BH mx len m r hi)
    (hl : boundO r 0 lo = some l) :
    (Instr.sliceBounds isS len cap lo' hi' mx').run C.P w = .ok (l, r, m) w := by
  have mono : ∀ {y z n : Nat} {v : V}, y ≤ z → boundV y v = some n → boundV z v = some n := by
    intro y z n v hyz hb
    unfold boundV at hb ⊢
    replace hb := ob_some hb
    obtain ⟨k, hk, hb⟩ := hb
    replace hb := guardO_some hb
    obtain ⟨hle, hb⟩ := hb
    cases hb
    rw [hk]
    show guardO (Nat.ble n z) (some n) = some n
    rw [Nat.ble_eq_true_of_le (Nat.le_trans (Nat.le_of_ble_eq_true hle) hyz)]
    rfl
  have bl : ∀ v x, lo = some v → lo' = some x → ∀ code, (Instr.sliceBound x r code).run C.P w = .ok l w := fun v x e e' code => by
    subst e e'; exact (bound_run (C := C) (w := w) hl hlo code).2
  have bh : ∀ v x, hi = some v → hi' = some x → ∀ code, (Instr.sliceBound x m code).run C.P w = .ok r w := fun v x e e' code => by
    subst e e'; obtain ⟨y, hy, hb⟩ := hr; exact (bound_run (C := C) (w := w) (mono hy hb) hhi code).2
  have bm : ∀ v x, mx = some v → mx' = some x → ∀ code, (Instr.sliceBound x cap code).run C.P w = .ok m w := fun v x e e' code => by
    subst e e'; obtain ⟨y, hy, hb⟩ := hm; exact (bound_run (C := C) (w := w) (mono hy hb) hmx code).2
  cases lo <;> cases lo' <;> first | exact hlo.elim | skip
  all_goals (cases hi <;> cases hi' <;> first | exact hhi.elim | skip)
  all_goals (cases mx <;> cases mx' <;> first | exact hmx.elim | skip)
  all_goals (first | (cases hr.1; done) | skip)
  all_goals (simp only [Instr.sliceBounds, Sem.run_bind, Sem.run_pure, Result.andThen, Option.isSome])
  all_goals (try (obtain ⟨_, rfl⟩ := hr))
  all_goals (try simp only [bm _ _ rfl rfl])
  all_goals (try simp only [bh _ _ rfl rfl])
  all_goals (try simp only [bl _ _ rfl rfl])
  all_goals (try (cases hl))
  all_goals (try subst hm)
  all_goals (try simp only [bh _ _ rfl rfl])
  all_goals (try simp only [bl _ _ rfl rfl])
  all_goals (try rfl)
theorem boundO_none {y dflt m : Nat} (hb : boundO y dflt none = some m) : m = dflt := by cases hb; rfl
theorem boundO_bm {c m : Nat} {o : Option V} (hb : boundO c c o = some m) : BM c m o := by
  cases o with
  | none => exact boundO_none hb
  | some v => exact ⟨c, Nat.le_refl _, hb⟩
theorem boundO_le {y dflt m : Nat} {o : Option V} (hb : boundO y dflt o = some m) (hd : dflt ≤ y) : m ≤ y := by
  cases o with
  | none => cases hb; exact hd
  | some v =>
    have hb : boundV y v = some m := hb
    unfold boundV at hb
    replace hb := ob_some hb
    obtain ⟨k, hk, hb⟩ := hb
    replace hb := guardO_some hb
    obtain ⟨hle, hb⟩ := hb
    cases hb
    exact Nat.le_of_ble_eq_true hle
theorem at_if (L : Loc) (m l off sz : Nat) : (if m = l then L.at_ off else (L.at_ off).add (l * sz)) = L.at_ (Bool.rec (off + l * sz) off (Nat.beq m l)) := by
  rw [boolRec_eq]
  by_cases hml : m = l
  · subst hml; simp
  · have : ¬ (Nat.beq m l = true) := fun e => hml (Nat.eq_of_beq_eq_true e)
    rw [if_neg hml, if_neg this, at_add]
theorem atS_den {sz j off m l r : Nat} {L : Loc} (hj : Φ j = some L) : den0 ρ Φ (atS sz j off m l r) = some (.slice (some (if m = l then L.at_ off else (L.at_ off).add (l * sz))) (r - l) (m - l)) := by
  rw [at_if]
  simp only [atS, den0, hj, Option.map_some]
theorem sliceX_run {isS : Bool} {sz j off len c : Nat} {lo hi mx : Option V} {lo' hi' mx' : Option Value} {v : V} (hv : sliceX sz j off len c lo hi mx = some v)
    (hlo : OptR ρ Φ lo lo') (hhi : OptR ρ Φ hi hi') (hmx : OptR ρ Φ mx mx') :
    ∃ l r m, v = atS sz j off m l r ∧ (Instr.sliceBounds isS len c lo' hi' mx').run C.P w = .ok (l, r, m) w := by
  unfold sliceX at hv
  replace hv := ob_some hv
  obtain ⟨m, hm, hv⟩ := hv
  replace hv := guardO_some hv
  obtain ⟨hg, hv⟩ := hv
  replace hv := ob_some hv
  obtain ⟨r, hr, hv⟩ := hv
  replace hv := om_some hv
  obtain ⟨l, hl, rfl⟩ := hv
  refine ⟨l, r, m, rfl, bounds_run hlo hhi hmx (boundO_bm hm) ?_ hl⟩
  cases hi with
  | none =>
    cases hr
    cases mx with
    | none => exact ⟨rfl, rfl⟩
    | some x => simp at hg
  | some x => exact ⟨m, Nat.le_refl _, hr⟩
theorem nought_run {o : Option V} {o' : Option Value} (hn : nought o = true) (ho : OptR ρ Φ o o') (y : Nat) : boundO y 0 o = some 0 := by
  cases o with
  | none => rfl
  | some v =>
    change Option.rec false (fun n => Nat.beq n 0) (natOf v) = true at hn
    show boundV y v = some 0
    unfold boundV
    cases hk : natOf v with
    | none => rw [hk] at hn; cases hn
    | some k =>
      rw [hk] at hn
      cases Nat.eq_of_beq_eq_true hn
      rfl
theorem nought_bounds {isS : Bool} {cap : Nat} {lo hi mx : Option V} {lo' hi' mx' : Option Value} (hg : (nought lo && nought hi && mx.isNone) = true)
    (hlo : OptR ρ Φ lo lo') (hhi : OptR ρ Φ hi hi') (hmx : OptR ρ Φ mx mx') : (Instr.sliceBounds isS 0 cap lo' hi' mx').run C.P w = .ok (0, 0, cap) w := by
  simp only [Bool.and_eq_true] at hg
  obtain ⟨⟨h1, h2⟩, h3⟩ := hg
  cases mx with
  | some x => simp at h3
  | none =>
    refine bounds_run hlo hhi hmx rfl ?_ (nought_run h1 hlo 0)
    cases hi with
    | none => exact ⟨rfl, rfl⟩
    | some x => exact ⟨cap, Nat.le_refl _, nought_run h2 hhi cap⟩
/-- A slice of a slice, of an array. -/
theorem sliceV_run (H1 : HR C.odd ρ Φ base h w) {t : TypeId} {x v : V} {x' : Value} {lo hi mx : Option V} {lo' hi' mx' : Option Value} (hv : sliceV C h t x lo hi mx = some v) (hx : denA ρ Φ x = some x')
    (hlo : OptR ρ Φ lo lo') (hhi : OptR ρ Φ hi hi') (hmx : OptR ρ Φ mx mx') :
    ∃ r, den0 ρ Φ v = some r ∧ (Instr.sliceAt t x' lo' hi' mx').run C.P w = .ok r w := by
  unfold sliceV at hv
  replace hv := ob_some hv
  obtain ⟨u, hu, hv⟩ := hv
  unfold sliceU at hv
  unfold Instr.sliceAt
  rw [Sem.run_bind, under_run hu, Result.andThen]
  split at hv
  · rename_i e
    replace hv := ob_some hv
    obtain ⟨sz, hsz, hv⟩ := hv
    simp only []
    -- the slice itself
    have fin : ∀ {a : Option Addr} {len cap l r m : Nat}, x' = .slice a len cap → (Instr.sliceBounds true len cap lo' hi' mx').run C.P w = .ok (l, r, m) w →
        (Instr.slice t x' lo' hi' mx').run C.P w = .ok (.slice (if m = l then a else a.map (·.add (l * sz))) (r - l) (m - l)) w := fun e1 hb => by
      subst e1
      unfold Instr.slice
      rw [Sem.run_bind, under_run hu, Result.andThen]
      simp only [Sem.run_bind, hb, Result.andThen, sizeT_run hsz, Sem.run_pure]
    unfold sliceS at hv
    split at hv
    · replace hv := guardO_some hv
      obtain ⟨hg, hv⟩ := hv
      cases hv; cases hx
      refine ⟨_, rfl, ?_⟩
      rw [fin rfl (nought_bounds (ρ := ρ) (Φ := Φ) hg hlo hhi hmx)]; simp
    · rename_i j off l
      replace hv := guardO_some hv
      obtain ⟨hg, hv⟩ := hv
      cases hv
      simp only [denA, denC, den0] at hx ⊢
      obtain ⟨L, hL, rfl⟩ := Option.map_eq_some_iff.1 hx
      rw [hL]
      refine ⟨_, rfl, ?_⟩
      by_cases hK : L.K - off / L.sz = l
      · simp only [if_pos hK] at fin ⊢
        rw [fin rfl (nought_bounds (ρ := ρ) (Φ := Φ) hg hlo hhi hmx)]; simp
      · simp only [if_neg hK] at fin ⊢
        rw [fin rfl (nought_bounds (ρ := ρ) (Φ := Φ) hg hlo hhi hmx)]
        split
        · rename_i h0; simp [h0]
        · simp [Addr.add]
    · rename_i j off len c
      cases c with
      | some c =>
        have hv : sliceX sz j off len c lo hi mx = some v := hv
        simp only [denA, denC, den0] at hx
        obtain ⟨L, hL, rfl⟩ := Option.map_eq_some_iff.1 hx
        obtain ⟨l, r, m, rfl, hb⟩ := sliceX_run (C := C) (w := w) (isS := true) hv hlo hhi hmx
        refine ⟨_, atS_den hL, ?_⟩
        rw [fin rfl hb]
        split <;> rfl
      | none =>
        have hv : ob (h.t.get j) (sliceO sz j off len lo hi mx) = some v := hv
        simp only [denA, denC, den0] at hx
        obtain ⟨L, hL, rfl⟩ := Option.map_eq_some_iff.1 hx
        replace hv := ob_some hv
        obtain ⟨o, ho, hv⟩ := hv
        unfold sliceO at hv
        split at hv
        · rename_i ro n s cc
          replace hv := guardO_some hv
          obtain ⟨hg, hv⟩ := hv
          simp only [Bool.and_eq_true, Bool.not_eq_true'] at hg
          obtain ⟨⟨g1, g2⟩, g3⟩ := hg
          have hss := Nat.eq_of_beq_eq_true g1
          have hon : off ≤ n := Nat.le_of_ble_eq_true g3
          obtain ⟨hLs, hn, _⟩ := H1.cells hL ho
          rw [← hss] at hsz hv fin g2
          rw [← hLs] at hsz hv fin g2
          have hs0 : 0 < L.sz := Nat.pos_of_ne_zero fun e => by rw [e] at g2; simp at g2
          -- what is known of the capacity
          have hcap : ∀ r, off + r * L.sz ≤ n → r ≤ L.K - off / L.sz := fun r hr => by
            have h1 : (off + r * L.sz) / L.sz ≤ (L.K * L.sz) / L.sz := Nat.div_le_div_right (Nat.le_trans hr hn)
            rw [Nat.add_mul_div_right _ _ hs0, Nat.mul_div_cancel _ hs0] at h1
            exact Nat.le_sub_of_add_le (by rw [Nat.add_comm]; exact h1)
          have hdiv : (n - off) / L.sz ≤ L.K - off / L.sz := hcap _ (by have := Nat.div_mul_le_self (n - off) L.sz; omega)
          cases mx with
          | none =>
            have hv : ob (boundO ((n - off) / L.sz) len hi) (fun r => guardO (Nat.ble (off + r * L.sz) n) (om (boundO r 0 lo) fun l => Bool.rec (.sl j (off + l * L.sz) (r - l) none) (.se j off l) (Nat.beq l r && !Nat.beq l 0))) = some v := hv
            replace hv := ob_some hv
            obtain ⟨r, hr, hv⟩ := hv
            replace hv := guardO_some hv
            obtain ⟨hrn, hv⟩ := hv
            replace hv := om_some hv
            obtain ⟨l, hl, hv⟩ := hv
            have hrn : off + r * L.sz ≤ n := Nat.le_of_ble_eq_true hrn
            have hrc := hcap r hrn
            have hlr : l ≤ r := boundO_le hl (Nat.zero_le _)
            have hb : (Instr.sliceBounds true len (L.K - off / L.sz) lo' hi' mx').run C.P w = .ok (l, r, L.K - off / L.sz) w := by
              refine bounds_run hlo hhi hmx rfl ?_ hl
              cases hi with
              | none => exact ⟨rfl, boundO_none hr⟩
              | some y => exact ⟨_, hdiv, hr⟩
            rw [fin rfl hb]
            rw [boolRec_eq] at hv
            split at hv
            · rename_i hc
              simp only [Bool.and_eq_true, Bool.not_eq_true'] at hc
              have hlr2 := Nat.eq_of_beq_eq_true hc.1
              subst hlr2
              subst hv
              simp only [den0, hL, Option.map_some]
              refine ⟨_, rfl, ?_⟩
              by_cases hK : L.K - off / L.sz = l
              · rw [if_pos hK, if_pos hK]; simp [hK]
              · rw [if_neg hK, if_neg hK]; simp [at_add]
            · rename_i hc
              subst hv
              simp only [den0, hL, Option.map_some]
              refine ⟨_, rfl, ?_⟩
              have hoff : (off + l * L.sz) / L.sz = off / L.sz + l := Nat.add_mul_div_right _ _ hs0
              by_cases hK : L.K - off / L.sz = l
              · have hl0 : l = 0 := by
                  have hlr2 : l = r := by omega
                  subst hlr2
                  rcases Nat.eq_zero_or_pos l with h0 | h0
                  · exact h0
                  · exfalso
                    apply hc
                    have : Nat.beq l 0 = false := by cases hb2 : Nat.beq l 0 with
                      | false => rfl
                      | true => have := Nat.eq_of_beq_eq_true hb2; omega
                    simp [this]
                subst hl0
                rw [if_pos hK, hoff]
                simp [hK]
              · rw [if_neg hK, hoff]
                simp only [Option.map_some, at_add]
                congr 2
                omega
          | some y =>
            have hv : ob (boundV ((n - off) / L.sz) y) (fun m => ob (ob hi (boundV m)) fun r => om (boundO r 0 lo) fun l => atS L.sz j off m l r) = some v := hv
            replace hv := ob_some hv
            obtain ⟨m, hm, hv⟩ := hv
            replace hv := ob_some hv
            obtain ⟨r, hr, hv⟩ := hv
            replace hr := ob_some hr
            obtain ⟨z, hz, hr⟩ := hr
            replace hv := om_some hv
            obtain ⟨l, hl, rfl⟩ := hv
            subst hz
            have hb : (Instr.sliceBounds true len (L.K - off / L.sz) lo' hi' mx').run C.P w = .ok (l, r, m) w :=
              bounds_run hlo hhi hmx ⟨_, hdiv, hm⟩ ⟨m, Nat.le_refl _, hr⟩ hl
            rw [fin rfl hb]
            refine ⟨_, atS_den hL, ?_⟩
            split <;> rfl
        · cases hv
    · cases hv
  · rename_i n e
    replace hv := ob_some hv
    obtain ⟨sz, hsz, hv⟩ := hv
    unfold sliceA at hv
    split at hv
    · rename_i j off
      simp only [denA, denC, den0] at hx
      obtain ⟨L, hL, rfl⟩ := Option.map_eq_some_iff.1 hx
      obtain ⟨l, r, m, rfl, hb⟩ := sliceX_run (C := C) (w := w) (isS := false) hv hlo hhi hmx
      refine ⟨_, atS_den hL, ?_⟩
      simp only [Instr.sureAddr, Sem.run_bind, Sem.run_pure, Result.andThen, hb, sizeT_run hsz]
    · cases hv
  · cases hv
end
end Go.Proofs.YtolheapnopmhgaaGreatDoor
