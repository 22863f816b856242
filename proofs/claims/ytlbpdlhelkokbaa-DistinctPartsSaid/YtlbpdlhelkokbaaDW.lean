/- How many bits ahead of a number are none: the library's contract, laid at this program. -/
import Derived.Test.YtlbpdlhelkokbaaRA
import Derived.Shelf.Small.Bits
namespace Go.Proofs.Ytlbpdlhelkokbaa
open Go.RowKit

def lzRen : Go.Shelf.Ren := ⟨fun x => if x = 129 then 39 else 35, fun x => if x = 46 then 53 else if x = 53 then 23 else x, fun x => x⟩
theorem lzLays : Lays.n134 Try.prog lzRen where
  mixed := by kernel_rfl
  f129 := by kernel_rfl
  f134 := by kernel_rfl
  t3 := Try.underlying3
  a3 := fun _ => by kernel_rfl
  z3 := fun _ => by kernel_rfl
  v3 := fun _ => by kernel_rfl
  t4 := Try.underlying4
  a4 := fun _ => by kernel_rfl
  z4 := fun _ => by kernel_rfl
  v4 := fun _ => by kernel_rfl
  t5 := Try.underlying5
  a5 := fun _ => by kernel_rfl
  z5 := fun _ => by kernel_rfl
  v5 := fun _ => by kernel_rfl
  t9 := Try.underlying9
  a9 := fun _ => by kernel_rfl
  z9 := fun _ => by kernel_rfl
  v9 := fun _ => by kernel_rfl
  t46 := Try.underlying53
  a46 := fun _ => by kernel_rfl
  z46 := fun _ => by kernel_rfl
  v46 := fun _ => by kernel_rfl
  t53 := Try.underlying23
  a53 := fun _ => by kernel_rfl
  z53 := fun _ => by kernel_rfl
  v53 := fun _ => by kernel_rfl
theorem lz_ok (x : Int) (h0 : 0 ≤ x) (h1 : x ≤ 18446744073709551615) (w : World) :
    Calls Try.prog 35 #[.int .u64 x] w fun e w' => e = .returned (.int .i64 (64 - (Lib.bitLen x.toNat : Int))) ∧ w = w' :=
  (Any.bits_LeadingZeros64 lzLays x w h0 h1).mono fun _ _ ⟨h1, h2⟩ => ⟨h1, h2.symm⟩
end Go.Proofs.Ytlbpdlhelkokbaa
