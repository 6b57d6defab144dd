/- A region that draws its order. -/
import Derived.Test.YtolheapnopmhgaaGreatDoorSim3
set_option linter.all false
namespace Go.Proofs.YtolheapnopmhgaaGreatDoor
open Go

section
variable {C : Ctx} {ρ : Sym} {base : Nat} {w0 : World} {F : Fence} {ops : Array Oper} {N n0 : Nat} {Φ0 : Env} {ih : Ih} {Q : Exit → Act → World → Prop} {S : Nat → List Nat}

theorem any_run (hB : BinR C ρ) (hact : ActS C ρ base w0 F ih) (hF : Free F) (hdf : F.round = none ∨ ∀ (j : Nat) (o : Oper) c, ops[j]? = some o → o.op ≠ .defer c) (hN : dstsB N ops = true) {ord : List Nat} (hC : confB ops (qtOf ops) S ord = true) {k : K} (hk : ∀ J Φ E a h w, Sim C ρ base w0 ops N n0 Φ0 [] J Φ E a h w → k .normal E h = true → Q .normal a w) :
    ∀ (m : Nat) (D rest : List Nat) (J : Nat → Option Nat) (listed : Array Bool) (Φ : Env) (E : A) (a : Act) (h : H) (w : World), (D ++ rest).length = m → (D ++ rest).Sublist ord → listed.size = ops.size → (∀ j, j ∈ D ++ rest ↔ j < ops.size ∧ listed.getD j true = false) → Listed.Closed ops listed →
      (∀ d ∈ D, qtOf ops d = true) → Sim C ρ base w0 ops N n0 Φ0 D J Φ E a h w → evOps C ih ops S k rest E h = true → wpAnyIn F 0 C.P .any ops Q m listed a w := by
  simp only [confB, Bool.and_eq_true] at hC
  obtain ⟨⟨⟨⟨⟨⟨hsel, hback⟩, hlen⟩, hlt⟩, hearly⟩, hself⟩, hpair⟩ := hC
  have hgood : GoodMask ops (masks ops.toList []) := good_masks ops.toList [] (fun j => by simp) hback (fun j k h => by simp at h)
  have hpw := pairsB_spec hpair
  -- what an operation waits for lies ahead of it
  have hfirst : ∀ (l seen : List Nat), earlyB ops seen l = true → ∀ (l1 : List Nat) (i : Nat) (l2 : List Nat), l = l1 ++ i :: l2 → ∀ o, ops[i]? = some o → ∀ e ∈ o.after, Region.binds .any e = true → e.on ∈ seen ∨ e.on ∈ l1 := by
    intro l
    induction l with
    | nil => intro seen _ l1 i l2 he; simp at he
    | cons x l ih =>
      intro seen hb l1 i l2 he o ho e hea hbd
      simp only [earlyB, Bool.and_eq_true] at hb
      cases l1 with
      | nil =>
        simp only [List.nil_append, List.cons.injEq] at he
        obtain ⟨rfl, rfl⟩ := he
        have h1 := hb.1
        simp only [ho] at h1
        have := Array.all_eq_true_iff_forall_mem.1 h1 e hea
        simp [hbd] at this
        exact .inl this
      | cons y l1 =>
        simp only [List.cons_append, List.cons.injEq] at he
        obtain ⟨rfl, rfl⟩ := he
        rcases ih (x :: seen) hb.2 l1 i l2 rfl o ho e hea hbd with h1 | h1
        · rcases List.mem_cons.1 h1 with h1 | h1
          · exact .inr (h1 ▸ List.mem_cons_self)
          · exact .inl h1
        · exact .inr (List.mem_cons_of_mem _ h1)
  have hnd : ord.Nodup := hpw.imp fun {a b} h => by
    simp only [Bool.and_eq_true, beq_iff_eq] at h
    exact fun e => by subst e; simp at h
  intro m
  induction m with
  | zero =>
    intro D rest J listed Φ E a h w hn _ _ hr _ _ hS hev
    have e : D ++ rest = [] := List.eq_nil_of_length_eq_zero hn
    have eD : D = [] := (List.append_eq_nil_iff.1 e).1
    have er : rest = [] := (List.append_eq_nil_iff.1 e).2
    subst eD; subst er
    refine ⟨?_, hk J Φ E a h w hS hev⟩
    cases hrd : Region.ready .any ops listed with
    | nil => rfl
    | cons j js =>
      have hj : j ∈ Region.ready .any ops listed := by rw [hrd]; exact List.mem_cons_self
      obtain ⟨h0, o, ho, _⟩ := mem_ready.1 hj
      have := (hr j).2 ⟨(Array.getElem?_eq_some_iff.1 ho).1, h0⟩
      cases this
  | succ m ihm =>
    intro D rest J listed Φ E a h w hn hsub hsz hr hcl hD hS hev
    generalize hgr : D ++ rest = r at hn hsub hr
    refine ⟨fun h0 => ?_, fun i hi => ?_⟩
    · exfalso
      cases r with
      | nil => simp at hn
      | cons j js =>
        obtain ⟨hj, hun⟩ := (hr j).1 List.mem_cons_self
        have : j ∈ Region.ready .any ops listed := mem_ready.2 ⟨hun, ops[j], Array.getElem?_eq_getElem hj, fun e he hbd => by
          obtain ⟨l1, l2, hl⟩ := List.append_of_mem (hsub.mem List.mem_cons_self)
          have hin : e.on ∈ l1 := (hfirst ord [] hearly l1 j l2 hl _ (Array.getElem?_eq_getElem hj) e he hbd).resolve_left (by simp)
          have hlt1 : e.on < ops.size := by
            have := List.all_eq_true.1 hlt e.on (by rw [hl]; exact List.mem_append_left _ hin)
            simpa [Nat.blt_eq] using this
          cases hg : listed.getD e.on false with
          | true => rfl
          | false =>
            exfalso
            have hin2 : e.on ∈ j :: js := (hr e.on).2 ⟨hlt1, by
              have hlt' : e.on < listed.size := by omega
              simp [hlt'] at hg ⊢; exact hg⟩
            rw [hl] at hsub hnd
            have hne : e.on ≠ j := fun e1 => (List.nodup_append.1 hnd).2.2 _ hin _ List.mem_cons_self e1
            have hjs : e.on ∈ js := (List.mem_cons.1 hin2).resolve_left hne
            have hjl1 : j ∉ l1 := fun hm => (List.nodup_append.1 hnd).2.2 _ hm _ List.mem_cons_self rfl
            have h3 : (j :: js).Sublist (j :: l2) := by
              clear hfirst hpw hearly hl hin hne hin2 hjs
              induction l1 with
              | nil => exact hsub
              | cons x l1 ih1 =>
                have hxj : x ≠ j := fun e1 => hjl1 (e1 ▸ List.mem_cons_self)
                cases hsub with
                | cons _ h => exact ih1 (List.nodup_cons.1 hnd).2 h (fun hm => hjl1 (List.mem_cons_of_mem _ hm))
                | cons_cons _ h => exact absurd rfl hxj
            have h4 : e.on ∈ l2 := by
              have := (List.cons_sublist_cons.1 h3).mem hjs
              exact this
            exact (List.nodup_append.1 hnd).2.2 _ hin _ (List.mem_cons_of_mem _ h4) rfl⟩
        rw [h0] at this
        cases this
    · obtain ⟨hun, oi, hoi, hall⟩ := mem_ready.1 hi
      have hilt : i < ops.size := (Array.getElem?_eq_some_iff.1 hoi).1
      have hir : i ∈ r := (hr i).2 ⟨hilt, hun⟩
      have hrdy : Listed.Ready ops listed i := fun o ho e he hbd => by
        have : o = oi := Option.some.inj (ho.symm.trans hoi)
        subst this
        exact hall e he hbd
      have hnotr : ∀ q, (maskAt ops i).testBit q = true → q ∉ r := fun q hq hm => by
        have h1 := (hgood i q hq).2 listed hcl hrdy
        have h2 := ((hr q).1 hm).2
        have hlt : q < listed.size := by rw [hsz]; exact ((hr q).1 hm).1
        simp [hlt] at h1 h2
        rw [h1] at h2; cases h2
      have hpr := hpw.sublist hsub
      have hndr : r.Nodup := hnd.sublist hsub
      have hopOf : ∀ x ∈ r, ∃ o, ops[x]? = some o := fun x hx => ⟨_, Array.getElem?_eq_getElem ((hr x).1 hx).1⟩
      -- what lies ahead of i
      have hk : ∀ (r1 r2 : List Nat), r = r1 ++ i :: r2 → ∀ k ∈ r1, qtOf ops k = true ∧ apartB ops k i = true ∧ (qtOf ops i = true ∨ k ∈ S i) := fun r1 r2 e k hkm => by
        rw [e] at hpr
        have h1 := (List.pairwise_append.1 hpr).2.2 k hkm i List.mem_cons_self
        simp only [pairB, Bool.and_eq_true, Bool.or_eq_true] at h1
        rcases h1.2.1 with h2 | ⟨⟨h2, h3⟩, h4⟩
        · exact absurd (by rw [e]; exact List.mem_append_left _ hkm) (hnotr k h2)
        · exact ⟨h3, h2, h4.imp id fun h => by simpa using h⟩
      have hself' : ∀ x ∈ r, qtOf ops x = true → selfB ops x = true := fun x hx hq => by
        have := List.all_eq_true.1 hself x (hsub.mem hx)
        simpa [hq] using this
      have hfree : r.Pairwise fun d x => d ≠ x ∧ (qtOf ops d = true → qtOf ops x = true → freeB ops d x = true) := hpr.imp fun {x y} hxy => by
        simp only [pairB, Bool.and_eq_true, Bool.or_eq_true, beq_iff_eq] at hxy
        refine ⟨fun e => by subst e; simp at hxy, fun h1 h2 => ?_⟩
        have := hxy.2.2
        simpa [h1, h2] using this
      -- the rest, when i is done
      have next : ∀ (D' rest' : List Nat) (J' : Nat → Option Nat) (Φ' : Env) (E' : A) (a' : Act) (h' : H) (w' : World), (∃ r1 r2, r = r1 ++ i :: r2 ∧ D' ++ rest' = r1 ++ r2) → (∀ d ∈ D', qtOf ops d = true) → Sim C ρ base w0 ops N n0 Φ0 D' J' Φ' E' a' h' w' →
          evOps C ih ops S k rest' E' h' = true → wpAnyIn F 0 C.P .any ops Q m (listed.setIfInBounds i true) a' w' := by
        rintro D' rest' J' Φ' E' a' h' w' ⟨r1, r2, hr12, hD'⟩ hDq hS' hev'
        subst hr12
        have hni : i ∉ r1 := fun hm => (List.nodup_append.1 hndr).2.2 _ hm _ List.mem_cons_self rfl
        have hni2 : i ∉ r2 := (List.nodup_cons.1 (List.nodup_append.1 hndr).2.1).1
        refine ihm D' rest' J' (listed.setIfInBounds i true) Φ' E' a' h' w' ?_ ?_ (by simp [hsz]) ?_ ?_ hDq hS' hev'
        · rw [hD']; simp at hn ⊢; omega
        · rw [hD']; exact (List.Sublist.append (List.Sublist.refl _) (List.sublist_cons_self _ _)).trans hsub
        · intro j
          rw [hD']
          by_cases hji : j = i
          · subst hji
            constructor
            · intro hm
              rcases List.mem_append.1 hm with hm | hm
              · exact absurd hm hni
              · exact absurd hm hni2
            · rintro ⟨_, hf⟩
              have : j < listed.size := by omega
              simp [this] at hf
          · rw [getD_set_ne true (Ne.symm hji), ← hr j]
            simp [hji]
        · intro j oj hoj hl e he hbd
          by_cases hij : i = j
          · subst hij
            have : oj = oi := Option.some.inj (hoj.symm.trans hoi)
            subst this
            exact getD_set_true (hall e he hbd)
          · rw [getD_set_ne false hij] at hl
            exact getD_set_true (hcl j oj hoj hl e he hbd)
      -- i was late
      have late : ∀ (D1 : List Nat) (rest1 : List Nat) (J1 : Nat → Option Nat) (E1 : A) (h1 : H), r = D1 ++ rest1 → i ∈ D1 → (∀ d ∈ D1, qtOf ops d = true) → Sim C ρ base w0 ops N n0 Φ0 D1 J1 Φ E1 a h1 w → evOps C ih ops S k rest1 E1 h1 = true →
          wpOpIn F 0 C.P ops Q i (wpAnyIn F 0 C.P .any ops Q m (listed.setIfInBounds i true)) a w := fun D1 rest1 J1 E1 h1 hr1 hiD hDq hS1 hev1 => by
        have hndD : D1.Nodup := by rw [hr1] at hndr; exact (List.nodup_append.1 hndr).1
        obtain ⟨X, Y, hXY⟩ := List.append_of_mem hiD
        have hrX : r = X ++ i :: (Y ++ rest1) := by rw [hr1, hXY]; simp
        refine hS1.catch_ hB hF hoi hiD hndD (hself' i hir (hDq i hiD)) (hDq i hiD) (fun d hd hne od hod t ht => ?_) fun a' w' Φ' hS' => next (D1.erase i) rest1 J1 Φ' E1 a' h1 w' ⟨X, Y ++ rest1, hrX, ?_⟩ (fun d hd => hDq d (List.mem_of_mem_erase hd)) hS' hev1
        · rw [hXY] at hd
          rcases List.mem_append.1 hd with hd | hd
          · exact (apartB_spec (hk X _ hrX d hd).2.1 hod hoi).1 t ht
          · rcases List.mem_cons.1 hd with hd | hd
            · exact absurd hd hne
            · have hf := hfree
              rw [hrX] at hf
              have hf2 := (List.pairwise_cons.1 (List.pairwise_append.1 hf).2.1).1 d (List.mem_append_left _ hd)
              exact (freeB_spec (hf2.2 (hDq i hiD) (hDq d (by rw [hXY]; exact List.mem_append_right _ (List.mem_cons_of_mem _ hd)))) hoi hod t ht).1
        · rw [hXY]
          have hX : i ∉ X := fun hm => by rw [hXY] at hndD; exact (List.nodup_append.1 hndD).2.2 _ hm _ List.mem_cons_self rfl
          rw [List.erase_append_right _ hX, List.erase_cons_head]
          simp
      subst hgr
      by_cases hiD : i ∈ D
      · exact late D rest J E h rfl hiD hD hS hev
      · have hirest : i ∈ rest := (List.mem_append.1 hir).resolve_left hiD
        obtain ⟨X, Y, hXY⟩ := List.append_of_mem hirest
        have hrX : D ++ rest = (D ++ X) ++ i :: Y := by rw [hXY]; simp
        have hkX := hk (D ++ X) Y hrX
        have hXr : ∀ x ∈ X, x ∈ D ++ rest := fun x hx => by rw [hrX]; exact List.mem_append_left _ (List.mem_append_right _ hx)
        have hpX : (D ++ X).Pairwise fun d x => d ≠ x ∧ (qtOf ops d = true → qtOf ops x = true → freeB ops d x = true) := by
          rw [hrX] at hfree; exact (List.pairwise_append.1 hfree).1
        rw [hXY] at hev
        obtain ⟨J1, E1, h1, hS1, hev1⟩ := hS.aheads hN X D J E h (fun x hx => ⟨hopOf x (hXr x hx), (hkX x (List.mem_append_right _ hx)).1, hself' x (hXr x hx) (hkX x (List.mem_append_right _ hx)).1⟩) hpX hD hev
        have hDX : ∀ d ∈ D ++ X, qtOf ops d = true := fun d hd => (hkX d hd).1
        cases hqi : qtOf ops i with
        | true =>
          have hp2 : ((D ++ X) ++ [i]).Pairwise fun d x => d ≠ x ∧ (qtOf ops d = true → qtOf ops x = true → freeB ops d x = true) := by
            rw [hrX] at hfree
            refine hfree.sublist ?_
            exact List.Sublist.append (List.Sublist.refl _) (List.singleton_sublist.2 List.mem_cons_self)
          obtain ⟨J2, E2, h2, hS2, hev2⟩ := hS1.aheads hN [i] (D ++ X) J1 E1 h1 (fun x hx => by cases List.mem_singleton.1 hx; exact ⟨hopOf i hir, hqi, hself' i hir hqi⟩) hp2 hDX hev1
          exact late (D ++ X ++ [i]) Y J2 E2 h2 (by rw [hrX]; simp) (List.mem_append_right _ (List.mem_singleton.2 rfl)) (fun d hd => by
            rcases List.mem_append.1 hd with hd | hd
            · exact hDX d hd
            · cases List.mem_singleton.1 hd; exact hqi) hS2 hev2
        | false =>
          refine hS1.act_ hact hF hdf hoi hqi (fun d hd => (hkX d hd).2.1) (S := S i) (fun d hd => (hkX d hd).2.2.resolve_left (by rw [hqi]; exact Bool.false_ne_true)) hN (evOps_cons hoi hev1) fun a' w' Φ' E' h' hS' hg => next (D ++ X) Y J1 Φ' E' a' h' w' ⟨D ++ X, Y, hrX, rfl⟩ hDX hS' hg
end
end Go.Proofs.YtolheapnopmhgaaGreatDoor
