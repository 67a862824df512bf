/- The walk of burst. -/
import Derived.Test.YthejhofnoolpcaaLwD
import Derived.Test.YthejhofnoolpcaaFlip
namespace Go.Proofs.Ythejhofnoolpcaa
open Go.RowKit Crc

/-- What burst hands back. -/
def BurstPost (s : ByteArray) (x : BitVec 32) (bit : Nat) (w : World) (e : Ending) (w' : World) : Prop :=
  Below w.heap.size w w' ∧ ((Room (bs s).length x.toNat bit 32 ∧ e = .returned (.tuple #[.string (str (burstTo (bs s) x.toNat bit 32)), .bool (u x != 0)])) ∨
    (¬ Room (bs s).length x.toNat bit 32 ∧ e = .returned (.tuple #[.string ⟨#[]⟩, .bool false])))
theorem getLsbD_testBit (x : BitVec 32) (k : Nat) : x.getLsbD k = x.toNat.testBit k := rfl
theorem flip_at (l : List UInt8) (k : Nat) (h : k / 8 < l.length) : l.set (k / 8) (l[k / 8] ^^^ (1 : UInt8) <<< UInt8.ofNat (k % 8)) = Crc.flip l k := by
  unfold Crc.flip
  congr 2
  rw [List.getD_eq_getElem?_getD, List.getElem?_eq_getElem h]; rfl
theorem shl_byte (r : Nat) (h : r < 8) : (2 : Int) ^ r % 256 = (((1 : UInt8) <<< UInt8.ofNat r).toNat : Int) := by
  rcases r with _ | _ | _ | _ | _ | _ | _ | _ | r <;> first | rfl | omega
theorem xor_byte (c : UInt8) (r : Nat) (h : r < 8) : Go.bits .xor .u8 (c.toNat : Int) (2 ^ r % 256) = ((c ^^^ (1 : UInt8) <<< UInt8.ofNat r).toNat : Int) := by
  rw [shl_byte r h, b_xor]

set_option maxHeartbeats 400000 in
theorem burst_any (s : ByteArray) (x : BitVec 32) (bit : Nat) (_hs : s.size ≤ 400) (hb : bit ≤ 3000) (w : World) :
    Calls Try.prog 24 #[.string s, .int .u32 (u x), .int .i64 bit] w (BurstPost s x bit w) := by
  have hcv := fun w => run_bytes_of_string (P := Try.prog) w 9 42 5 s Try.underlying9 Try.underlying42 Try.underlying5
  go_enter Try.func24, Try.ntmps24
  go_wp2_with fail
  generalize hcap : grownCap w s.size 0 5 = cap
  go_loopw [13] (fun i wr => ∃ k : Nat, k ≤ 32 ∧ i = .int .i64 k ∧ Room (bs s).length x.toNat bit k ∧ Buf wr w.heap.size (burstTo (bs s) x.toNat bit k) ∧ Below w.heap.size w wr) (fun i _ => 32 - (intOf i).toNat)
  case atStart =>
    refine ⟨0, Nat.zero_le _, rfl, Room.zero _ _ _, ?_, ?_⟩
    · rw [← hcap]
      exact (Buf.new w s).drew
    · exact below_drew ((Below.refl _ _).alloc (Nat.le_refl _) _)
  case round =>
    obtain ⟨k, hk, rfl, hroom, hbuf, hbl⟩ := hrel
    by_cases hlt : k < 32
    · have hb1 := u_bit1 (x >>> k)
      rw [shr_bit] at hb1
      have hsh := u_shr x k (2 ^ k) rfl
      rcases hx : x.getLsbD k
      · rw [hx] at hb1
        have hb2 : Go.bits .and .u32 (u (x >>> k)) 1 = 0 := hb1
        have HR := Lib.hid (hroom.no hx)
        have HB : Hid (Buf wr w.heap.size (burstTo (bs s) x.toNat bit (k + 1))) := Lib.hid (by
          rw [burstTo, if_neg (by rw [← getLsbD_testBit, hx]; decide)]; exact hbuf)
        clear hb1 hx hbuf hroom
        go_wp2_with fail
        go_roundw
        case rel => exact ⟨k + 1, by omega, by go_num, HR.out, HB.out, hbl⟩
        case measure => simp [intOf]; omega
      · rw [hx] at hb1
        have hb2 : Go.bits .and .u32 (u (x >>> k)) 1 = 1 := hb1
        have HR := Lib.hid hroom
        have HX := Lib.hid hx
        have HU := Lib.hid hbuf
        clear hb1 hx hbuf hroom
        by_cases hr : (bit + k) / 8 < s.size
        · have q3 : (bit + k) / 8 < (burstTo (bs s) x.toNat bit k).length := by rw [burstTo_length]; exact hr
          have g0 := HU.out.cell _ q3
          have g1 := HU.out.free _ q3
          have t1 : (((bit : Int) + (k : Int)) / 8).toNat = (bit + k) / 8 := by omega
          have t2 : ((bit : Int) + (k : Int)) / 8 < s.size := by omega
          have t3 : 0 ≤ ((bit : Int) + (k : Int)) / 8 := by omega
          have hxb := xor_byte ((burstTo (bs s) x.toNat bit k)[(bit + k) / 8]) ((bit + k) % 8) (Nat.mod_lt _ (by decide))
          have HS := Lib.hid (HU.out.set _ q3 ((burstTo (bs s) x.toNat bit k)[(bit + k) / 8] ^^^ (1 : UInt8) <<< UInt8.ofNat ((bit + k) % 8)))
          have HF : Hid ((burstTo (bs s) x.toNat bit k).set ((bit + k) / 8) ((burstTo (bs s) x.toNat bit k)[(bit + k) / 8] ^^^ (1 : UInt8) <<< UInt8.ofNat ((bit + k) % 8)) = burstTo (bs s) x.toNat bit (k + 1)) := Lib.hid (by
            rw [flip_at _ _ q3, burstTo, if_pos (by rw [← getLsbD_testBit]; exact HX.out)])
          generalize ((burstTo (bs s) x.toNat bit k)[(bit + k) / 8] ^^^ (1 : UInt8) <<< UInt8.ofNat ((bit + k) % 8)) = z at *
          generalize (burstTo (bs s) x.toNat bit k)[(bit + k) / 8] = c at *
          go_wp2_with fail
          go_region
          go_wp2_with fail
          go_roundw
          case rel => exact ⟨k + 1, by omega, by go_num, HR.out.yes (by rw [bs_length]; omega), by rw [← HF.out]; exact HS.out.drew, below_drew (hbl.setCell (Nat.le_refl _) _)⟩
          case measure => simp [intOf]; omega
        · go_wp2_with fail
          go_ret2
          refine ⟨hbl, .inr ⟨fun h => ?_, rfl⟩⟩
          have := h k hlt (by rw [← getLsbD_testBit]; exact HX.out)
          rw [bs_length] at this
          omega
    · obtain rfl : k = 32 := by omega
      have hst := hbuf.str cap
      rw [burstTo_length, bs_length] at hst
      go_wp2_with fail
      go_ret2
      exact ⟨hbl, .inl ⟨hroom, rfl⟩⟩
end Go.Proofs.Ythejhofnoolpcaa
