/- Walks: the reader of a directory: numbers, bytes (the program's). -/
import Derived.Test.YtoojpfcnekpboaaGreatZAY
import Derived.Test.YtoojpfcnekpboaaGreatZBC
import Derived.Test.YtoojpfcnekpboaaGreatZAZ
namespace Go.Proofs.YtoojpfcnekpboaaGreat
open Go.RowKit Go.Shelf

def rsC (st : RS) : Array Value := #[.string st.rest, .bool st.bad]
set_option maxRecDepth 100000 in
set_option maxHeartbeats 1000000 in
theorem rnumber_any (R : Nat) (st : RS) (w : World) (hR : At w R (rsC st) 115) (hs : st.rest.size ≤ 1000000) :
    Calls Tryz.prog 95 #[.pointer (some ⟨R, 0, none⟩)] w fun e w' => e = .returned (.int .i64 (rNum st).1) ∧ At w' R (rsC (rNum st).2) 115 ∧ Keep R w w' := by
  obtain ⟨s, b⟩ := st
  have c0 : w.cell? ⟨R, 0, none⟩ = some (.string s) := hR.cell 0
  have hs2 : s.size ≤ 1000000 := hs
  have HRD := Lib.hid (read_any s w (by omega))
  have HR := Lib.hid hR
  have hbd := rdG_bounds s
  have HN : Hid (rNum ⟨s, b⟩ = if b = true ∨ (rdG s).2.2 ≠ 0 then (0, ⟨s, true⟩) else ((rdG s).1, ⟨cutS s (rdG s).2.1.toNat, false⟩)) := Lib.hid rfl
  obtain ⟨⟨n, q, er⟩, hp⟩ : ∃ p, rdG s = p := ⟨_, rfl⟩
  rw [hp] at HRD HN hbd
  simp only [tripV] at HRD HN hbd
  obtain ⟨b1, b2, b3, b4⟩ := hbd
  clear hp hR hs
  go_enter Tryz.func95, Tryz.ntmps95
  go_wp2_with fail
  refine HRD.out.mono ?_
  rintro e w1 ⟨rfl, hb⟩
  have hR1 := HR.out.below hb
  have HK1 := Lib.hid (Keep.below (p := R) hb)
  have HR1 := Lib.hid hR1
  have c1 : w1.cell? ⟨R, 1, none⟩ = some (.bool b) := hR1.cell 1
  have c0 : w1.cell? ⟨R, 0, none⟩ = some (.string s) := hR1.cell 0
  have f1 : w1.frozen? ⟨R, 1, none⟩ = false := hR1.free 1
  have f0 : w1.frozen? ⟨R, 0, none⟩ = false := hR1.free 0
  clear hb hR1 HRD
  have HF1 : Hid (At (w1.setCell ⟨R, 1, none⟩ (.bool true)) R (rsC ⟨s, true⟩) 115) := Lib.hid (HR1.out.set 1 _)
  have HF2 := Lib.hid (HK1.out.set 1 (.bool true))
  cases b
  · by_cases h0 : er = 0
    · subst h0
      have HV : Hid (rNum ⟨s, false⟩ = (n, ⟨cutS s q.toNat, false⟩)) := Lib.hid (by rw [HN.out, if_neg (by simp)])
      obtain ⟨L, rfl⟩ : ∃ L : Nat, q = L := ⟨q.toNat, by omega⟩
      rw [Int.toNat_natCast] at HV
      have HG1 : Hid (At (w1.setCell ⟨R, 0, none⟩ (.string (cutS s L))) R (rsC ⟨cutS s L, false⟩) 115) := Lib.hid (HR1.out.set 0 _)
      have HG2 := Lib.hid (HK1.out.set 0 (.string (cutS s L)))
      go_wp2_with fail
      go_ret
      rw [HV.out]
      exact ⟨rfl, HG1.out, HG2.out⟩
    · have HV : Hid (rNum ⟨s, false⟩ = (0, ⟨s, true⟩)) := Lib.hid (by rw [HN.out, if_pos (.inr h0)])
      have d1 : (er != 0) = true := bne_iff_ne.2 h0
      clear h0
      go_wp2_with fail
      go_ret
      rw [HV.out]
      exact ⟨rfl, HF1.out, HF2.out⟩
  · have HV : Hid (rNum ⟨s, true⟩ = (0, ⟨s, true⟩)) := Lib.hid (by rw [HN.out, if_pos (.inl rfl)])
    go_wp2_with fail
    go_ret
    rw [HV.out]
    exact ⟨rfl, HF1.out, HF2.out⟩
set_option maxRecDepth 100000 in
set_option maxHeartbeats 1000000 in
theorem rbytes_any (R : Nat) (n : Int) (st : RS) (w : World) (hR : At w R (rsC st) 115) (hs : st.rest.size ≤ 1000000) (hn : 0 ≤ n) :
    Calls Tryz.prog 94 #[.pointer (some ⟨R, 0, none⟩), .int .i64 n] w fun e w' => e = .returned (.string (rByt n st).1) ∧ At w' R (rsC (rByt n st).2) 115 ∧ Keep R w w' := by
  obtain ⟨s, b⟩ := st
  have c0 : w.cell? ⟨R, 0, none⟩ = some (.string s) := hR.cell 0
  have c1 : w.cell? ⟨R, 1, none⟩ = some (.bool b) := hR.cell 1
  have f1 : w.frozen? ⟨R, 1, none⟩ = false := hR.free 1
  have f0 : w.frozen? ⟨R, 0, none⟩ = false := hR.free 0
  have hs2 : s.size ≤ 1000000 := hs
  have HN : Hid (rByt n ⟨s, b⟩ = if b = true ∨ (s.size : Int) < n then (⟨#[]⟩, ⟨s, true⟩) else (s.extract 0 n.toNat, ⟨cutS s n.toNat, false⟩)) := Lib.hid rfl
  have HF1 : Hid (At (w.setCell ⟨R, 1, none⟩ (.bool true)) R (rsC ⟨s, true⟩) 115) := Lib.hid (hR.set 1 _)
  have HF2 := Lib.hid ((Keep.refl R w).set 1 (.bool true))
  have HR := Lib.hid hR
  clear hR hs
  cases b
  · by_cases h0 : (s.size : Int) < n
    · have HV : Hid (rByt n ⟨s, false⟩ = (⟨#[]⟩, ⟨s, true⟩)) := Lib.hid (by rw [HN.out, if_pos (.inr h0)])
      go_enter Tryz.func94, Tryz.ntmps94
      go_wp2_with fail
      go_ret
      rw [HV.out]
      exact ⟨rfl, HF1.out, HF2.out⟩
    · have HV : Hid (rByt n ⟨s, false⟩ = (s.extract 0 n.toNat, ⟨cutS s n.toNat, false⟩)) := Lib.hid (by rw [HN.out, if_neg (by simp; omega)])
      obtain ⟨L, rfl⟩ : ∃ L : Nat, n = L := ⟨n.toNat, by omega⟩
      rw [Int.toNat_natCast] at HV
      have HG1 : Hid (At (w.setCell ⟨R, 0, none⟩ (.string (cutS s L))) R (rsC ⟨cutS s L, false⟩) 115) := Lib.hid (HR.out.set 0 _)
      have HG2 := Lib.hid ((Keep.refl R w).set 0 (.string (cutS s L)))
      go_enter Tryz.func94, Tryz.ntmps94
      go_wp2_with fail
      go_ret
      rw [HV.out]
      exact ⟨rfl, HG1.out, HG2.out⟩
  · have HV : Hid (rByt n ⟨s, true⟩ = (⟨#[]⟩, ⟨s, true⟩)) := Lib.hid (by rw [HN.out, if_pos (.inl rfl)])
    go_enter Tryz.func94, Tryz.ntmps94
    go_wp2_with fail
    go_ret
    rw [HV.out]
    exact ⟨rfl, HF1.out, HF2.out⟩
end Go.Proofs.YtoojpfcnekpboaaGreat
