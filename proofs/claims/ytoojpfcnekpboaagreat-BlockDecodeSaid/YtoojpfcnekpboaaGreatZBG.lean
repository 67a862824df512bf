/- A file that is opened: plain Lean. -/
import Derived.Test.YtoojpfcnekpboaaGreatZBF
import Derived.Test.YtoojpfcnekpboaaGreatZAP
import Derived.Test.YtoojpfcnekpboaaGreatZAQ
namespace Go.Proofs.YtoojpfcnekpboaaGreat
open Go.RowKit Go.Shelf

instance (s : ByteArray) : Decidable (CR.Whole s) := by unfold CR.Whole; infer_instance
def le32 (l : List UInt8) : Nat := (l.getD 0 0).toNat + (l.getD 1 0).toNat * 256 + (l.getD 2 0).toNat * 65536 + (l.getD 3 0).toNat * 16777216
def endS (s : ByteArray) : ByteArray := cutS s (s.size - 8)
def szS (s : ByteArray) : Nat := le32 (bs (CR.body (endS s)))
def dirS (s : ByteArray) : ByteArray := s.extract (s.size - 8 - szS s) (s.size - 8)
def opR (s : ByteArray) : RB := rBlk ⟨CR.body (dirS s), false⟩
/-- What is wrong with the directory of a file (0: nothing). -/
def opE (s : ByteArray) : Int :=
  if s.size < 8 then 11
  else if CR.Whole (endS s) then
    (if szS s < 4 ∨ s.size - 8 < szS s then 11
    else if CR.Whole (dirS s) then
      (if (opR s).st.bad = true ∨ (opR s).st.rest.size ≠ 0 ∨ (opR s).total ≠ ((s.size - 8 - szS s : Nat) : Int) ∨ bchk (opR s).blk ≠ 0 then 12 else 0)
    else 13)
  else 13
theorem endS_size {s : ByteArray} (h : ¬ s.size < 8) : (endS s).size = 8 := by
  unfold endS
  rw [cutS_size]
  omega
theorem bend_size {s : ByteArray} (h : ¬ s.size < 8) : (CR.body (endS s)).size = 4 := by rw [CR.body_size, endS_size h]
/-- What 'open' answers. -/
def OPost (s : ByteArray) (w : World) (e : Ending) (w' : World) : Prop := Below w.heap.size w w' ∧
  ((opE s = 0 ∧ ∃ A c A2 c2, e = .returned (.tuple #[.agg (blC (opR s).blk A2 c2), .slice A (opR s).items.length c, .int .i64 0]) ∧ ItmsT w' A (opR s).items ∧ (opR s).items.length ≤ c ∧ ChRow w' A2 (opR s).blk.chunks ∧ (opR s).items.length ≤ c2 ∧ (∀ k, A2.map (·.block) = some k → w.heap.size ≤ k)) ∨
   (opE s ≠ 0 ∧ e = .returned (.tuple #[.agg (blC ⟨0, 0, 0, []⟩ none 0), .slice none 0 0, .int .i64 (opE s)])))
theorem or_bits (a c k m : Nat) (hm : m = 2 ^ k) (ha : a < m) (hc : c < 256) (hk : k ≤ 24) : bits BinOp.or .i64 (a : Int) ((c : Int) * (m : Int)) = ((a + c * m : Nat) : Int) := by
  have h2 : m ≤ 2 ^ 24 := by rw [hm]; exact Nat.pow_le_pow_right (by decide) hk
  have h8 : c * m ≤ 255 * 2 ^ 24 := Nat.mul_le_mul (by omega) h2
  have hor : a ||| c * m = a + c * m := by
    subst hm
    have h1 := Nat.two_pow_add_eq_or_of_lt (i := k) (b := a) ha c
    rw [Nat.or_comm, Nat.mul_comm c, ← h1]
    omega
  have hw : ∀ n : Int, 0 ≤ n → n < 2 ^ 63 → IntKind.i64.wrap n = n := fun n h0 h1 => by rw [IntKind.wrap_i64]; omega
  have h63 : (2 : Nat) ^ 63 = 9223372036854775808 := by decide
  have := (bits_nat .i64 63 (by decide) hw a (c * m) (by omega) (by omega)).2
  rw [hor] at this
  rw [show (c : Int) * (m : Int) = ((c * m : Nat) : Int) by push_cast; rfl, this]
theorem results_row_tmp3 {P : Program} {fn : Func} {p q r : Tmp} {ty : TypeId} (h : fn.results = #[.cell p ty, .tmp q, .tmp r]) (tmps : Array Value) (w : World) (g : Nat) (t : TypeId) (cs : Array Value) (d : TypeDesc)
    (hp : tmps.getD p undef = .pointer (some ⟨g, 0, none⟩)) (hg : At w g cs t) (hu : P.underlying ty = some d) (hd : (match d with | .struct _ | .array _ _ => true | _ => false) = true) (hi : (P.info? ty).map (·.size) = some cs.size) :
    (results fn tmps).run P w = .ok (.tuple #[.agg cs, tmps.getD q undef, tmps.getD r undef]) w := results_row_tmp2 h tmps w g t cs d hp hg hu hd hi
theorem size_reader : (Tryz.prog.info? 115).map (·.size) = some 2 := by kernel_rfl
theorem rsC_one (st : RS) : ((rsC st).all fun x => x.oneCell') = true := by simp [rsC, Value.oneCell']
end Go.Proofs.YtoojpfcnekpboaaGreat
