/- The walk of the law Odd. -/
import Derived.Test.YthejhofnoolpcaaLwG
namespace Go.Proofs.Ythejhofnoolpcaa
open Go.RowKit Crc

/-- What the string holds behind k bits inverted. -/
def OddIn (S : ByteArray) (k : Nat) (L : List UInt8) : Prop := L.length = S.size ∧ parity (bitsOf L) = (parity (bitsOf (bs S)) ^^ (k % 2 == 1))
theorem OddIn.start (S : ByteArray) : OddIn S 0 (bs S) := ⟨rfl, by simp⟩
theorem OddIn.step {S : ByteArray} {k : Nat} {L : List UInt8} (h : OddIn S k L) (j : Nat) (hj : j < 8 * S.size) : OddIn S (k + 1) (Crc.flip L j) := by
  refine ⟨by rw [flip_length]; exact h.1, ?_⟩
  rw [parity_flip L j (by rw [h.1]; exact hj), h.2]
  have : ((k + 1) % 2 == 1) = !(k % 2 == 1) := by
    rcases Nat.mod_two_eq_zero_or_one k with e | e
    · have e2 : (k + 1) % 2 = 1 := by omega
      rw [e, e2]; rfl
    · have e2 : (k + 1) % 2 = 0 := by omega
      rw [e, e2]; rfl
  rw [this]
  cases parity (bitsOf (bs S)) <;> cases (k % 2 == 1) <;> rfl
theorem OddIn.bad {S : ByteArray} {k : Nat} {L : List UInt8} (h : OddIn S k L) (ho : k % 2 = 1) (hw : Whole S) : ¬ Whole (str L) := by
  intro hw2
  have h1 := whole_feed S hw
  have h2 := whole_feed _ hw2
  rw [bs_str] at h2
  refine parity_feed (bs S) L ?_ _ (h2.trans h1.symm)
  rw [h.2, ho]; cases parity (bitsOf (bs S)) <;> rfl

set_option maxHeartbeats 1000000 in
theorem lawOdd (s : ByteArray) (b off len cap : Nat) (zs : List Int) (w : World) (hb : 0 < len → b < w.heap.size) (_hs : s.size ≤ 140737488351232) (hlen : len ≤ 9223372036854775807)
    (hcell : ∀ i, i < len → w.cell? ⟨b, off + i, none⟩ = some (.int .u16 (zs.getD i 0))) (hwf : ∀ i, i < len → 0 ≤ zs.getD i 0 ∧ zs.getD i 0 < 65536) :
    Calls Try.prog 9 #[.string s, .slice (some ⟨b, off, none⟩) len cap] w fun e w' => e = .returned (.bool true) ∧ Below w.heap.size w w' := by
  by_cases g1 : 300 < s.size
  · go_enter Try.func9, Try.ntmps9
    go_wp2_with fail
    refine (awake_any _).mono ?_
    rintro e w1 ⟨rfl, h1⟩
    go_wp2_with fail
    go_ret
    exact ⟨rfl, h1⟩
  · by_cases g2 : 20 < len
    · have g1 : s.size ≤ 300 := by omega
      go_enter Try.func9, Try.ntmps9
      go_wp2_with fail
      refine (awake_any _).mono ?_
      rintro e w1 ⟨rfl, h1⟩
      go_wp2_with fail
      go_ret
      exact ⟨rfl, h1⟩
    · have g1 : s.size ≤ 300 := by omega
      have g2 : len ≤ 20 := by omega
      have hs2 : s.size ≤ 100000 := by omega
      obtain ⟨S, hS⟩ : ∃ S, S = str (bs s ++ ending (sum (bs s))) := ⟨_, rfl⟩
      have hl : S.size = s.size + 4 := by rw [hS, str_size, List.length_append, bs_length]; rfl
      have HW : Hid (Whole S) := Lib.hid (by rw [hS]; exact whole_seal s)
      have hS1 : S.size ≤ 400 := by omega
      have hS4 : 4 ≤ S.size := by omega
      have HS := Lib.hid hS
      have d1 : ((S.size : Int) != (s.size : Int) + 4) = false := by rw [hl]; simp
      have HL := Lib.hid hl
      clear hl hS hlen
      have HCELL := Lib.hid hcell
      have HWF := Lib.hid hwf
      have HB := Lib.hid hb
      clear hcell hwf hb
      go_enter Try.func9, Try.ntmps9
      go_wp2_with fail
      refine (seal_any s hs2 _).mono ?_
      rintro e w1 ⟨rfl, h1⟩
      rw [← HS.out]
      have hcv := run_bytes_of_string (P := Try.prog) w1 9 42 5 S Try.underlying9 Try.underlying42 Try.underlying5
      go_wp2_with fail
      generalize hcap : grownCap w1 S.size 0 5 = cp
      go_loopw [33] (fun i wr => ∃ k : Nat, k ≤ len ∧ i = .int .i64 k ∧ ∃ L, OddIn S k L ∧ Buf wr w1.heap.size L ∧ Below w1.heap.size w1 wr) (fun i _ => len - (intOf i).toNat)
      case atStart =>
        refine ⟨0, Nat.zero_le _, rfl, bs S, OddIn.start S, ?_, ?_⟩
        · rw [← hcap]
          exact (Buf.new w1 S).drew
        · exact below_drew ((Below.refl _ _).alloc (Nat.le_refl _) _)
      case round =>
        obtain ⟨k, hk, rfl, L, hod, hbuf, hbl⟩ := hrel
        by_cases hlt : k < len
        · have hcell := (bt h1 hbl).cell (p := ⟨b, off + k, none⟩) (HB.out (by omega))
          rw [HCELL.out k hlt] at hcell
          have hwf := HWF.out k hlt
          generalize zs.getD k 0 = z at *
          obtain ⟨z, rfl⟩ : ∃ n : Nat, z = (n : Int) := ⟨z.toNat, by omega⟩
          have hz0 : (z : Int) ≤ 65535 := by omega
          clear hwf
          have hm : (z : Int) % (8 * (S.size : Int)) = ((z % (8 * S.size) : Nat) : Int) := by rw [Int.natCast_emod]; rfl
          have hj : z % (8 * S.size) < 8 * S.size := Nat.mod_lt _ (by omega)
          have HO := Lib.hid (hod.step _ hj)
          generalize z % (8 * S.size) = j at *
          have q3 : j / 8 < L.length := by rw [hod.1]; omega
          have q4 : j / 8 < S.size := by omega
          have g0 := hbuf.cell _ q3
          have g1 := hbuf.free _ q3
          have t1 : ((j : Int) / 8).toNat = j / 8 := by omega
          have hxb := xor_byte (L[j / 8]) (j % 8) (Nat.mod_lt _ (by decide))
          have HS := Lib.hid (hbuf.set _ q3 (L[j / 8] ^^^ (1 : UInt8) <<< UInt8.ofNat (j % 8)))
          have HF := Lib.hid (flip_at L j q3)
          generalize (L[j / 8] ^^^ (1 : UInt8) <<< UInt8.ofNat (j % 8)) = y at *
          generalize L[j / 8] = c at *
          go_wp2_with fail
          go_region
          go_wp2_with fail
          go_roundw
          case rel => exact ⟨k + 1, by omega, by go_num, _, HO.out, by rw [← HF.out]; exact HS.out.drew, below_drew (hbl.setCell (Nat.le_refl _) _)⟩
          case measure => simp [intOf]; omega
        · obtain rfl : len = k := by omega
          have hst := hbuf.str cp
          rw [hod.1] at hst
          have hz1 : (str L).size = S.size := by rw [str_size]; exact hod.1
          have hz2 : (str L).size ≤ 100000 := by omega
          have hz3 : 4 ≤ (str L).size := by omega
          clear hz1
          by_cases ho : len % 2 = 1
          · have HN := Lib.hid (hod.bad ho HW.out)
            have d1 : (((len : Int) % 2) == 0) = false := by rw [beq_eq_false_iff_ne]; omega
            clear ho
            go_wp2_with fail
            refine (open_bad _ hz2 hz3 HN.out _).mono ?_
            rintro e w4 ⟨rfl, h4⟩
            go_wp2_with fail
            refine (awake_any _).mono ?_
            rintro e w5 ⟨rfl, h5⟩
            go_wp2_with fail
            go_ret
            exact ⟨rfl, bt (bt (bt h1 hbl) h4) h5⟩
          · have d1 : (((len : Int) % 2) == 0) = true := by rw [beq_iff_eq]; omega
            clear ho
            by_cases hw : Whole (str L)
            · have HN := Lib.hid hw
              clear hw
              go_wp2_with fail
              refine (open_good _ hz2 hz3 HN.out _).mono ?_
              rintro e w4 ⟨rfl, h4⟩
              go_wp2_with fail
              refine (awake_any _).mono ?_
              rintro e w5 ⟨rfl, h5⟩
              go_wp2_with fail
              go_ret
              exact ⟨rfl, bt (bt (bt h1 hbl) h4) h5⟩
            · have HN := Lib.hid hw
              clear hw
              go_wp2_with fail
              refine (open_bad _ hz2 hz3 HN.out _).mono ?_
              rintro e w4 ⟨rfl, h4⟩
              go_wp2_with fail
              refine (awake_any _).mono ?_
              rintro e w5 ⟨rfl, h5⟩
              go_wp2_with fail
              go_ret
              exact ⟨rfl, bt (bt (bt h1 hbl) h4) h5⟩

set_option maxHeartbeats 1000000 in
theorem lawOdd_nil (s : ByteArray) (a : Option Addr) (cap : Nat) (w : World) (_hs : s.size ≤ 140737488351232) :
    Calls Try.prog 9 #[.string s, .slice a 0 cap] w fun e w' => e = .returned (.bool true) ∧ Below w.heap.size w w' := by
  by_cases g1 : 300 < s.size
  · go_enter Try.func9, Try.ntmps9
    go_wp2_with fail
    refine (awake_any _).mono ?_
    rintro e w1 ⟨rfl, h1⟩
    go_wp2_with fail
    go_ret
    exact ⟨rfl, h1⟩
  · have g1 : s.size ≤ 300 := by omega
    have hs2 : s.size ≤ 100000 := by omega
    obtain ⟨S, hS⟩ : ∃ S, S = str (bs s ++ ending (sum (bs s))) := ⟨_, rfl⟩
    have hl : S.size = s.size + 4 := by rw [hS, str_size, List.length_append, bs_length]; rfl
    have HW : Hid (Whole S) := Lib.hid (by rw [hS]; exact whole_seal s)
    have hS1 : S.size ≤ 100000 := by omega
    have hS4 : 4 ≤ S.size := by omega
    have HS := Lib.hid hS
    have d1 : ((S.size : Int) != (s.size : Int) + 4) = false := by rw [hl]; simp
    clear hl hS
    go_enter Try.func9, Try.ntmps9
    go_wp2_with fail
    refine (seal_any s hs2 _).mono ?_
    rintro e w1 ⟨rfl, h1⟩
    rw [← HS.out]
    have hcv := run_bytes_of_string (P := Try.prog) w1 9 42 5 S Try.underlying9 Try.underlying42 Try.underlying5
    go_wp2_with fail
    generalize hcap : grownCap w1 S.size 0 5 = cp
    go_loopw [33] (fun i wr => i = .int .i64 0 ∧ Buf wr w1.heap.size (bs S) ∧ Below w1.heap.size w1 wr) (fun _ _ => 0)
    case atStart =>
      refine ⟨rfl, ?_, ?_⟩
      · rw [← hcap]
        exact (Buf.new w1 S).drew
      · exact below_drew ((Below.refl _ _).alloc (Nat.le_refl _) _)
    case round =>
      obtain ⟨rfl, hbuf, hbl⟩ := hrel
      have hst := hbuf.str cp
      rw [str_bs, bs_length] at hst
      go_wp2_with fail
      refine (open_good _ hS1 hS4 HW.out _).mono ?_
      rintro e w4 ⟨rfl, h4⟩
      go_wp2_with fail
      refine (awake_any _).mono ?_
      rintro e w5 ⟨rfl, h5⟩
      go_wp2_with fail
      go_ret
      exact ⟨rfl, bt (bt (bt h1 hbl) h4) h5⟩
end Go.Proofs.Ythejhofnoolpcaa
