/- Numbers of the machine as bit vectors: the operations of the walk on them. -/
import Derived.Test.YthejhofnoolpcaaMath
import Derived.Test.YthejhofnoolpcaaRows
import Derived.WalkKit
import Derived.WalkSpells
import Derived.Deep.WholeRow
import Derived.Deep.LoopGhost
import Derived.Deep.QuietTactic
import Derived.BigQuiet
import Derived.Deep.DeepCutAuto
import Derived.Lib.Hide
namespace Go.Proofs.Ythejhofnoolpcaa
open Go.RowKit Crc

/-- A register as the machine holds it. -/
def u (x : BitVec 32) : Int := (x.toNat : Int)
theorem u_lo (x : BitVec 32) : 0 ≤ u x := Int.natCast_nonneg _
theorem u_hi (x : BitVec 32) : u x < 4294967296 := by have := x.isLt; unfold u; omega
theorem u_of {n : Int} (h0 : 0 ≤ n) (h1 : n < 4294967296) : ∃ x, n = u x := ⟨BitVec.ofNat 32 n.toNat, by unfold u; rw [BitVec.toNat_ofNat]; omega⟩
theorem u_inj {x y : BitVec 32} (h : u x = u y) : x = y := BitVec.eq_of_toNat_eq (by unfold u at h; omega)
theorem u_zero : u 0#32 = 0 := rfl
theorem wrap_u (x : BitVec 32) : IntKind.u32.wrap (u x) = u x := by rw [IntKind.wrap_u32]; have := u_lo x; have := u_hi x; omega
theorem ofInt_u (x : BitVec 32) : BitVec.ofInt 32 (u x) = x := by
  unfold u; simp
theorem u_xor (x y : BitVec 32) : Go.bits .xor .u32 (u x) (u y) = u (x ^^^ y) := by
  unfold Go.bits
  show IntKind.u32.wrap (((BitVec.ofInt 32 (u x) ^^^ BitVec.ofInt 32 (u y) : BitVec 32).toNat : Nat) : Int) = _
  rw [ofInt_u, ofInt_u]
  exact wrap_u _
theorem u_and (x y : BitVec 32) : Go.bits .and .u32 (u x) (u y) = u (x &&& y) := by
  unfold Go.bits
  show IntKind.u32.wrap (((BitVec.ofInt 32 (u x) &&& BitVec.ofInt 32 (u y) : BitVec 32).toNat : Nat) : Int) = _
  rw [ofInt_u, ofInt_u]
  exact wrap_u _
theorem u_shr (x : BitVec 32) (k : Nat) (p : Int) (h : p = (2 : Int) ^ k) : u x / p = u (x >>> k) := by
  unfold u
  rw [BitVec.toNat_ushiftRight, Nat.shiftRight_eq_div_pow, h]
  simp
theorem u_low (x : BitVec 32) : (Go.bits .and .u32 (u x) 1 = 0) ↔ x.getLsbD 0 = false := by
  rw [show (1 : Int) = u 1#32 from rfl, u_and, ← u_zero]
  constructor
  · intro h
    have h1 := congrArg (fun y => y.getLsbD 0) (u_inj h)
    simp only [BitVec.getLsbD_and] at h1
    simpa using h1
  · intro h
    congr 1
    apply BitVec.eq_of_getLsbD_eq
    intro i hi
    rw [BitVec.getLsbD_and]
    rcases i with _ | i
    · rw [h]; simp
    · simp
theorem u_sh1_even (x : BitVec 32) (h : x.getLsbD 0 = false) : u x / 2 = u (sh1 x) := by
  rw [u_shr x 1 2 rfl]; unfold sh1; rw [h]; simp
theorem u_sh1_odd (x : BitVec 32) (h : x.getLsbD 0 = true) : Go.bits .xor .u32 (u x / 2) 2197175160 = u (sh1 x) := by
  rw [u_shr x 1 2 rfl, show (2197175160 : Int) = u P from rfl, u_xor]; unfold sh1; rw [h]; simp
end Go.Proofs.Ythejhofnoolpcaa
