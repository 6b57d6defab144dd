/- The seat's program: all regions are such as the evaluator takes; no function is the one that counts goroutines. -/
import Derived.Test.YtolheapnopmhgaaGreatDoorProg
import Derived.Test.YtolheapnopmhgaaGreatDoorWay6
import Derived.Test.YtolheapnopmhgaaGreatDoorOdd
import Derived.KernelRfl
set_option linter.all false
namespace Go.Proofs.YtolheapnopmhgaaGreatDoor
open Go

noncomputable def okF (fn : Func) : Bool := Option.rec true (codeOk oddL fn.ntmps) fn.body
theorem chunks {α : Type} {p : α → Bool} {l : List α} {m : Nat} (hlen : l.length ≤ 24 * m) (h : ∀ i, i < m → ((l.drop (24 * i)).take 24).all p = true) {f : Nat} {x : α} (hx : l[f]? = some x) : p x = true := by
  have hlt : f < l.length := (List.getElem?_eq_some_iff.1 hx).1
  have h1 : f / 24 < m := by omega
  have h2 := List.all_eq_true.1 (h _ h1) x
  refine h2 (List.mem_of_getElem? (i := f % 24) ?_)
  rw [List.getElem?_take, if_pos (Nat.mod_lt _ (by omega)), List.getElem?_drop, Nat.div_add_mod]
  exact hx
set_option maxRecDepth 100000
theorem mixed : Tryz.prog.follows .mixedOrders = true := by kernel_rfl
theorem names_all : (Tryz.prog.funcs.toList.all fun fn => !(fn.name == "runtime.NumGoroutine")) = true := by kernel_rfl
theorem names (f : Nat) (fn : Func) (hf : Tryz.prog.funcs[f]? = some fn) : (fn.name == "runtime.NumGoroutine") = false := by
  have := List.all_eq_true.1 names_all fn (Array.mem_toList_iff.2 (Array.mem_of_getElem? hf))
  simpa using this
theorem codes0 : ((Tryz.prog.funcs.toList.drop 0).take 24).all okF = true := by kernel_rfl
theorem codes1 : ((Tryz.prog.funcs.toList.drop 24).take 24).all okF = true := by kernel_rfl
theorem codes2 : ((Tryz.prog.funcs.toList.drop 48).take 24).all okF = true := by kernel_rfl
theorem codes3 : ((Tryz.prog.funcs.toList.drop 72).take 24).all okF = true := by kernel_rfl
theorem codes4 : ((Tryz.prog.funcs.toList.drop 96).take 24).all okF = true := by kernel_rfl
theorem codes5 : ((Tryz.prog.funcs.toList.drop 120).take 24).all okF = true := by kernel_rfl
theorem codes6 : ((Tryz.prog.funcs.toList.drop 144).take 24).all okF = true := by kernel_rfl
theorem codes7 : ((Tryz.prog.funcs.toList.drop 168).take 24).all okF = true := by kernel_rfl
theorem codes8 : ((Tryz.prog.funcs.toList.drop 192).take 24).all okF = true := by kernel_rfl
theorem codes9 : ((Tryz.prog.funcs.toList.drop 216).take 24).all okF = true := by kernel_rfl
theorem codes10 : ((Tryz.prog.funcs.toList.drop 240).take 24).all okF = true := by kernel_rfl
theorem codes11 : ((Tryz.prog.funcs.toList.drop 264).take 24).all okF = true := by kernel_rfl
theorem codes12 : ((Tryz.prog.funcs.toList.drop 288).take 24).all okF = true := by kernel_rfl
theorem codes13 : ((Tryz.prog.funcs.toList.drop 312).take 24).all okF = true := by kernel_rfl
theorem codes14 : ((Tryz.prog.funcs.toList.drop 336).take 24).all okF = true := by kernel_rfl
theorem codes15 : ((Tryz.prog.funcs.toList.drop 360).take 24).all okF = true := by kernel_rfl
theorem funcs_len : Nat.ble Tryz.prog.funcs.toList.length (24 * 16) = true := by kernel_rfl
theorem codes (f : Nat) (fn : Func) (c : Code) (hf : Tryz.prog.funcs[f]? = some fn) (hb : fn.body = some c) : codeOk oddL fn.ntmps c = true := by
  have h1 : okF fn = true := chunks (l := Tryz.prog.funcs.toList) (m := 16) (f := f) (x := fn) (Nat.le_of_ble_eq_true funcs_len) (fun i hi => by
    match i, hi with
    | 0, _ => exact codes0
    | 1, _ => exact codes1
    | 2, _ => exact codes2
    | 3, _ => exact codes3
    | 4, _ => exact codes4
    | 5, _ => exact codes5
    | 6, _ => exact codes6
    | 7, _ => exact codes7
    | 8, _ => exact codes8
    | 9, _ => exact codes9
    | 10, _ => exact codes10
    | 11, _ => exact codes11
    | 12, _ => exact codes12
    | 13, _ => exact codes13
    | 14, _ => exact codes14
    | 15, _ => exact codes15
    | i + 16, hi => exact absurd hi (by omega)) (by simpa using hf)
  unfold okF at h1
  rw [hb] at h1
  exact h1
end Go.Proofs.YtolheapnopmhgaaGreatDoor
