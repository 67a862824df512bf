/- The parser's walks: the closure of a class, where over it, plainByte. -/
import Derived.Test.YtheblleadjbndaaPb
namespace Go.Proofs.Ytheblleadjbndaa
open Go.RowKit

set_option maxHeartbeats 400000 in
theorem inClass_any (c : UInt8) (S I : Nat) (g : UInt8 → Bool) (inv : Bool) (w : World) (hS : At w S (btab g 256) 102) (hI : At w I #[.bool inv] 4) :
    Calls Try.prog 76 #[.int .u8 c.toNat, .pointer (some ⟨S, 0, none⟩), .pointer (some ⟨I, 0, none⟩)] w fun e w' => e = .returned (.bool (g c != inv)) ∧ ∃ n, w' = w.drewN n := by
  have hc := c.toNat_lt
  have g0 := hS.cell c.toNat
  rw [btab_get g 256 c.toNat hc, if_pos hc] at g0
  have e : UInt8.ofNat c.toNat = c := by simp
  rw [e] at g0
  clear e
  have g1 : w.cell? ⟨I, 0, none⟩ = some (.bool inv) := hI.cell 0
  generalize g c = y at *
  go_enter Try.func76, Try.ntmps76
  go_wp2_with fail
  go_quiet (fail)
  go_wp2_with fail
  go_ret
  exact ⟨rfl, _, rfl⟩

set_option maxRecDepth 100000 in
set_option maxHeartbeats 400000 in
theorem where_class (S I : Nat) (g : UInt8 → Bool) (inv : Bool) (w : World) (hS : At w S (btab g 256) 102) (hI : At w I #[.bool inv] 4) :
    Calls Try.prog 70 #[.func (.func 76) #[] #[.pointer (some ⟨S, 0, none⟩), .pointer (some ⟨I, 0, none⟩)]] w fun e w' => e = .returned (.pointer (some ⟨w.heap.size, 0, none⟩)) ∧ Below w.heap.size w w' ∧ At w' w.heap.size (btab (fun c => g c != inv) 256) 102 := by
  have hcl := fun (c : UInt8) w1 h1 h2 => Lib.hid (inClass_any c S I g inv w1 h1 h2)
  generalize hf : (fun c => g c != inv) = f at *
  have HF0 : Hid (∀ c, (g c != inv) = f c) := Lib.hid (fun c => by rw [← hf])
  clear hf
  go_enter Try.func70, Try.ntmps70
  go_wp2_with fail
  go_loopw [5] (fun i wr => ∃ j : Nat, j ≤ 256 ∧ i = .int .i64 j ∧ At wr w.heap.size (btab f j) 102 ∧ Below w.heap.size w wr) (fun i _ => 256 - (intOf i).toNat)
  case atStart =>
    refine ⟨0, Nat.zero_le _, rfl, ?_, (Below.refl _ _).alloc (Nat.le_refl _) _⟩
    rw [btab_zero, ← zero_class]
    exact At.new w _ _
  case round =>
    obtain ⟨j, hj, rfl, hat, hbl⟩ := hrel
    by_cases hlt : j < 256
    · have hc : (UInt8.ofNat j).toNat = j := by rw [UInt8.toNat_ofNat']; omega
      have HC := Lib.hid hc
      have g0 := hat.cell j
      rw [btab_get f j j hlt, if_neg (Nat.lt_irrefl _)] at g0
      have g1 := hat.free j
      have HS := Lib.hid (btab_set f j hlt)
      have HA := Lib.hid (hat.set j (.bool (f (UInt8.ofNat j))))
      have HF := hcl (UInt8.ofNat j) wr (hS.below hbl) (hI.below hbl)
      have HE := Lib.hid (HF0.out (UInt8.ofNat j))
      clear hc
      go_wp2_with fail
      rw [show (j : Int) = ((UInt8.ofNat j).toNat : Int) by rw [HC.out]]
      refine (HF.out).mono ?_
      rintro e w' ⟨rfl, n, rfl⟩
      rw [HC.out, HE.out]
      go_wp2_with fail
      go_roundw
      case rel => exact ⟨j + 1, by omega, by go_num, by rw [← HS.out]; exact HA.out.drewN n, bN (hbl.setCell (Nat.le_refl _) _) n⟩
      case measure => simp [intOf]; omega
    · obtain rfl : j = 256 := by omega
      go_wp2_with fail
      go_ret
      exact ⟨rfl, hbl, hat⟩

/-- The cells of a node of a tree. -/
def nd (kind : Int) (plain : Bool) (char : Int) (cl parts : Value) : Array Value := #[.int .i64 kind, .bool plain, .int .u8 char, cl, parts]
set_option maxHeartbeats 400000 in
theorem plainByte_any (c : Int) (w : World) :
    Calls Try.prog 73 #[.int .u8 c] w fun e w' => e = .returned (.pointer (some ⟨w.heap.size, 0, none⟩)) ∧ w' = w.alloc (.cells (nd 0 true c (.pointer none) (.slice none 0 0)) 54) := by
  go_enter Try.func73, Try.ntmps73
  go_wp2_with fail
  go_ret
  exact ⟨rfl, rfl⟩
end Go.Proofs.Ytheblleadjbndaa
