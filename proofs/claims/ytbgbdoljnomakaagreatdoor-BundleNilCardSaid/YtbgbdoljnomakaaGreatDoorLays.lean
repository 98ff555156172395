import Derived.Test.YtbgbdoljnomakaaGreatDoorProg
import Derived.Shelf.Lays
import Derived.KernelRfl
/- The closure of 'internal/stringslite.Index' as it lies in this program. -/
namespace Go.Proofs.YtbgbdoljnomakaaGreatDoor
open Go Go.Shelf
def rho : Ren := ⟨fun x => match x with | 217 => 528 | 219 => 534 | 224 => 592 | 225 => 591 | 266 => 588 | 267 => 593 | 314 => 624 | x => x, fun x => match x with | 46 => 174 | 51 => 262 | 146 => 673 | x => x, fun x => match x with | 1 => 3 | x => x⟩
theorem laysMixed : Tryz.prog.follows .mixedOrders = true := by kernel_rfl
theorem laysF217 : Tryz.prog.funcs[rho.f 217]? = some (Body.n217 rho) := by kernel_rfl
theorem laysF219 : Tryz.prog.funcs[rho.f 219]? = some (Body.n219 rho) := by kernel_rfl
theorem laysF224 : Tryz.prog.funcs[rho.f 224]? = some (Body.n224 rho) := by kernel_rfl
theorem laysF225 : Tryz.prog.funcs[rho.f 225]? = some (Body.n225 rho) := by kernel_rfl
theorem laysF266 : Tryz.prog.funcs[rho.f 266]? = some (Body.n266 rho) := by kernel_rfl
theorem laysF267 : Tryz.prog.funcs[rho.f 267]? = some (Body.n267 rho) := by kernel_rfl
theorem laysF314 : Tryz.prog.funcs[rho.f 314]? = some (Body.n314 rho) := by kernel_rfl
theorem lays : Lays.n219 Tryz.prog rho where
  mixed := laysMixed
  f217 := laysF217
  f219 := laysF219
  f224 := laysF224
  f225 := laysF225
  f266 := laysF266
  f267 := laysF267
  f314 := laysF314
  t3 := by kernel_rfl
  a3 := fun _ => by kernel_rfl
  z3 := fun _ => by kernel_rfl
  v3 := fun _ => by kernel_rfl
  t4 := by kernel_rfl
  a4 := fun _ => by kernel_rfl
  z4 := fun _ => by kernel_rfl
  v4 := fun _ => by kernel_rfl
  t5 := by kernel_rfl
  a5 := fun _ => by kernel_rfl
  z5 := fun _ => by kernel_rfl
  v5 := fun _ => by kernel_rfl
  t9 := by kernel_rfl
  a9 := fun _ => by kernel_rfl
  z9 := fun _ => by kernel_rfl
  v9 := fun _ => by kernel_rfl
  t46 := by kernel_rfl
  a46 := fun _ => by kernel_rfl
  z46 := fun _ => by kernel_rfl
  v46 := fun _ => by kernel_rfl
  t51 := by kernel_rfl
  a51 := fun _ => by kernel_rfl
  z51 := fun _ => by kernel_rfl
  v51 := fun _ => by kernel_rfl
  t146 := by kernel_rfl
  a146 := fun _ => by kernel_rfl
  z146 := fun _ => by kernel_rfl
  v146 := fun _ => by kernel_rfl
  g1 := by kernel_rfl
end Go.Proofs.YtbgbdoljnomakaaGreatDoor
