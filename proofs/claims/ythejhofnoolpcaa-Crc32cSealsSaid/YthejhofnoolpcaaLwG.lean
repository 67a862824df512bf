/- The walk of the law Burst. -/
import Derived.Test.YthejhofnoolpcaaLwF
namespace Go.Proofs.Ythejhofnoolpcaa
open Go.RowKit Crc

theorem sum_differ (l : List UInt8) (x : BitVec 32) (bit : Nat) (h0 : u x ≠ 0) (h : Room l.length x.toNat bit 32) : (u (sum (burstTo l x.toNat bit 32)) == u (sum l)) = false := by
  rw [beq_eq_false_iff_ne]
  intro e
  have e := u_inj e
  unfold sum at e
  have e2 := congrArg (~~~ ·) e
  simp only [BitVec.not_not] at e2
  refine burst_feed l x.toNat bit x.isLt (fun h1 => h0 ?_) h _ e2
  unfold u; omega
theorem whole_feed (s : ByteArray) (h : Whole s) : feed (~~~ 0#32) (bs s) = good := by
  rw [body_tail s]
  unfold Whole at h
  rw [h, bs_str]
  exact seal_good _
theorem burst_whole (s : ByteArray) (x : BitVec 32) (bit : Nat) (h0 : u x ≠ 0) (h : Room (bs s).length x.toNat bit 32) (hw : Whole s) : ¬ Whole (str (burstTo (bs s) x.toNat bit 32)) := by
  intro hw2
  have h1 := whole_feed s hw
  have h2 := whole_feed _ hw2
  rw [bs_str] at h2
  refine burst_feed (bs s) x.toNat bit x.isLt (fun h1 => h0 ?_) h _ (h2.trans h1.symm)
  unfold u; omega
theorem whole_seal (s : ByteArray) : Whole (str (bs s ++ ending (sum (bs s)))) := by
  rw [whole_iff, body_seal, bs_str]
theorem mod_nat (b n : Nat) : ((b : Int) % (n : Int)) = ((b % n : Nat) : Int) := by omega

set_option maxHeartbeats 1000000 in
theorem lawBurst (s : ByteArray) (x : BitVec 32) (b : Nat) (hb : b < 65536) (w : World) (_hs : s.size ≤ 140737488351232) :
    Calls Try.prog 8 #[.string s, .int .u32 (u x), .int .u16 b] w fun e w' => e = .returned (.bool true) ∧ Below w.heap.size w w' := by
  by_cases g1 : 300 < s.size
  · go_enter Try.func8, Try.ntmps8
    go_wp2_with fail
    refine (awake_any _).mono ?_
    rintro e w1 ⟨rfl, h1⟩
    go_wp2_with fail
    go_ret
    exact ⟨rfl, h1⟩
  · have hs1 : s.size ≤ 400 := by omega
    have hs2 : s.size ≤ 100000 := by omega
    have hs3 : s.size ≤ maxLen := by unfold maxLen; omega
    obtain ⟨S, hS⟩ : ∃ S, S = str (bs s ++ ending (sum (bs s))) := ⟨_, rfl⟩
    have hl : S.size = s.size + 4 := by rw [hS, str_size, List.length_append, bs_length]; rfl
    have HW : Hid (Whole S) := Lib.hid (by rw [hS]; exact whole_seal s)
    have hS1 : S.size ≤ 400 := by omega
    have hS4 : 4 ≤ S.size := by omega
    have HS := Lib.hid hS
    have m1 : (b : Int) % 2400 = ((b % 2400 : Nat) : Int) := mod_nat b 2400
    have m2 : (b : Int) % 2432 = ((b % 2432 : Nat) : Int) := mod_nat b 2432
    have HM1 := Lib.hid m1
    have HM2 := Lib.hid m2
    clear hl hS m1 m2
    by_cases h0 : u x = 0
    · have c0 : (u x != 0) = false := bne_eq_false_iff_eq.2 h0
      clear h0
      go_enter Try.func8, Try.ntmps8
      go_wp2_with fail
      rw [HM1.out]
      refine (burst_any s x (b % 2400) hs1 (by omega) _).mono ?_
      rintro e w1 ⟨h1, ⟨_, rfl⟩ | ⟨_, rfl⟩⟩
      all_goals
        go_wp2_with fail
        refine (seal_any s hs2 _).mono ?_
        rintro e w2 ⟨rfl, h2⟩
        rw [← HS.out]
        go_wp2_with fail
        rw [HM2.out]
        refine (burst_any S x (b % 2432) hS1 (by omega) _).mono ?_
        rintro e w3 ⟨h3, ⟨_, rfl⟩ | ⟨_, rfl⟩⟩
        all_goals
          go_wp2_with fail
          refine (awake_any _).mono ?_
          rintro e w4 ⟨rfl, h4⟩
          go_wp2_with fail
          go_ret
          exact ⟨rfl, bt (bt (bt h1 h2) h3) h4⟩
    · have c0 : (u x != 0) = true := bne_iff_ne.2 h0
      have H0 := Lib.hid h0
      clear h0
      go_enter Try.func8, Try.ntmps8
      go_wp2_with fail
      rw [HM1.out]
      refine (burst_any s x (b % 2400) hs1 (by omega) _).mono ?_
      rintro e w1 ⟨h1, ⟨hr, rfl⟩ | ⟨_, rfl⟩⟩
      · have d0 := sum_differ (bs s) x (b % 2400) H0.out hr
        have hz : (str (burstTo (bs s) x.toNat (b % 2400) 32)).size ≤ maxLen := by rw [str_size, burstTo_length, bs_length]; exact hs3
        clear hr
        go_wp2_with fail
        refine (sum_any _ hz _).mono ?_
        rintro e w1' ⟨rfl, h1'⟩
        rw [bs_str]
        go_wp2_with fail
        refine (sum_any s hs3 _).mono ?_
        rintro e w1'' ⟨rfl, h1''⟩
        go_wp2_with fail
        refine (seal_any s hs2 _).mono ?_
        rintro e w2 ⟨rfl, h2⟩
        rw [← HS.out]
        go_wp2_with fail
        rw [HM2.out]
        refine (burst_any S x (b % 2432) hS1 (by omega) _).mono ?_
        rintro e w3 ⟨h3, ⟨hr, rfl⟩ | ⟨_, rfl⟩⟩
        · have HN := Lib.hid (burst_whole S x (b % 2432) H0.out hr HW.out)
          have hz1 : (str (burstTo (bs S) x.toNat (b % 2432) 32)).size = S.size := by rw [str_size, burstTo_length, bs_length]
          have hz2 : (str (burstTo (bs S) x.toNat (b % 2432) 32)).size ≤ 100000 := by omega
          have hz3 : 4 ≤ (str (burstTo (bs S) x.toNat (b % 2432) 32)).size := by omega
          clear hz1 hr
          go_wp2_with fail
          refine (open_bad _ hz2 hz3 HN.out _).mono ?_
          rintro e w4 ⟨rfl, h4⟩
          go_wp2_with fail
          refine (awake_any _).mono ?_
          rintro e w5 ⟨rfl, h5⟩
          go_wp2_with fail
          go_ret
          exact ⟨rfl, bt (bt (bt (bt (bt (bt h1 h1') h1'') h2) h3) h4) h5⟩
        · go_wp2_with fail
          refine (awake_any _).mono ?_
          rintro e w4 ⟨rfl, h4⟩
          go_wp2_with fail
          go_ret
          exact ⟨rfl, bt (bt (bt (bt (bt h1 h1') h1'') h2) h3) h4⟩
      · go_wp2_with fail
        refine (seal_any s hs2 _).mono ?_
        rintro e w2 ⟨rfl, h2⟩
        rw [← HS.out]
        go_wp2_with fail
        rw [HM2.out]
        refine (burst_any S x (b % 2432) hS1 (by omega) _).mono ?_
        rintro e w3 ⟨h3, ⟨hr, rfl⟩ | ⟨_, rfl⟩⟩
        · have HN := Lib.hid (burst_whole S x (b % 2432) H0.out hr HW.out)
          have hz1 : (str (burstTo (bs S) x.toNat (b % 2432) 32)).size = S.size := by rw [str_size, burstTo_length, bs_length]
          have hz2 : (str (burstTo (bs S) x.toNat (b % 2432) 32)).size ≤ 100000 := by omega
          have hz3 : 4 ≤ (str (burstTo (bs S) x.toNat (b % 2432) 32)).size := by omega
          clear hz1 hr
          go_wp2_with fail
          refine (open_bad _ hz2 hz3 HN.out _).mono ?_
          rintro e w4 ⟨rfl, h4⟩
          go_wp2_with fail
          refine (awake_any _).mono ?_
          rintro e w5 ⟨rfl, h5⟩
          go_wp2_with fail
          go_ret
          exact ⟨rfl, bt (bt (bt (bt h1 h2) h3) h4) h5⟩
        · go_wp2_with fail
          refine (awake_any _).mono ?_
          rintro e w4 ⟨rfl, h4⟩
          go_wp2_with fail
          go_ret
          exact ⟨rfl, bt (bt (bt h1 h2) h3) h4⟩
end Go.Proofs.Ythejhofnoolpcaa
