/- The walk of the law BlockDamage. -/
import Derived.Test.YtoojpfcnekpboaaNB
namespace Go.Proofs.Ytoojpfcnekpboaa
open Go.RowKit Go.Shelf Crc

theorem dmg_yes (l : List UInt8) (m bit k : Nat) (h : m.testBit k = true) (hr : (bit + k) / 8 < (dmgTo l m bit k).length) : (dmgTo l m bit k).set ((bit + k) / 8) ((dmgTo l m bit k)[(bit + k) / 8] ^^^ (1 : UInt8) <<< UInt8.ofNat ((bit + k) % 8)) = dmgTo l m bit (k + 1) := by
  have hr' := hr
  rw [dmgTo_length] at hr'
  rw [flip_at _ _ hr, dmgTo, if_pos ⟨h, hr'⟩]
theorem dmg_no (l : List UInt8) (m bit k : Nat) (h : ¬ (m.testBit k = true ∧ (bit + k) / 8 < l.length)) : dmgTo l m bit (k + 1) = dmgTo l m bit k := by
  rw [dmgTo, if_neg h]
set_option maxRecDepth 100000 in
set_option maxHeartbeats 4000000 in
theorem lawDamage_any (b : Blk) (A : Option Addr) (c : Nat) (x : BitVec 32) (bit : Nat) (hbit : bit < 65536) (w : World) (hB : BlkOk w b A c) :
    Calls Try.prog 4 #[.agg (blC b A c), .int .u32 (CR.u x), .int .u16 bit] w fun e w' => e = .returned (.bool true) ∧ Below w.heap.size w w' := by
  have hat := At.new w (blC b A c) 24
  have hb0 : Below w.heap.size w (w.alloc (.cells (blC b A c) 24)) := (Below.refl _ _).alloc (Nat.le_refl _) _
  have HB := Lib.hid hb0
  have HAT := Lib.hid hat
  have HG := Lib.hid (fun (W : World) (h : Below w.heap.size w W) => greatB_any b A c W ((hB.rd.below h).mono h.size) hB.cap (fun x hx => (hB.labs x hx).1) hB.len)
  have HEN := Lib.hid (fun (hf : Fine b) (W : World) (h : Below w.heap.size w W) => encode_any b A c W ((hB.rd.below h).mono h.size) hB.cap hf.mid)
  have HFI := Lib.hid (fun (h : bgreat b = false) => Fine.of h hB.zone)
  obtain ⟨V, hV⟩ : ∃ V, V = blC b A c := ⟨_, rfl⟩
  rw [← hV] at HAT HB HG HEN
  rw [← hV]
  have hvs : V.size = 4 := by rw [hV]; rfl
  have HBIT := Lib.hid hbit
  have hbi : (bit : Int) < 65536 := by omega
  clear hat hb0 hB hV hbit
  go_enter Try.func4, Try.ntmps4
  go_upto_region 1 with fail
  generalize w.alloc (.cells V 24) = w0 at *
  go_wp2_with (refine wpList_load_row rfl 24 (.tmp 3) rfl w.heap.size rfl 24 V (0, 0) _ HAT.out.out Try.underlying24 rfl (by rw [hvs]; exact size_blk) ?_)
  refine (HG.out w0 HB.out).mono ?_
  rintro e w1 ⟨rfl, hb⟩
  replace HAT := Lib.hid (HAT.out.below hb)
  replace HB := Lib.hid (HB.out.trans (hb.mono HB.out.size))
  clear hb HG
  by_cases hg : bgreat b = true
  · rw [hg]
    clear hg HEN HFI
    go_wp2_with fail
    refine (awake_any w1).mono ?_
    rintro e w2 ⟨rfl, hb⟩
    have HB2 := Lib.hid (HB.out.trans (hb.mono HB.out.size))
    clear hb
    go_wp2_with fail
    go_ret
    exact ⟨rfl, HB2.out⟩
  have hg2 : bgreat b = false := by simpa using hg
  have hf := HFI.out hg2
  have HEN2 := Lib.hid (HEN.out hf)
  have HF := Lib.hid hf
  rw [hg2]
  clear hg hg2 hf HEN HFI
  by_cases hx0 : CR.u x = 0
  · have c0 : (CR.u x == 0) = true := beq_iff_eq.2 hx0
    clear hx0 HEN2
    go_wp2_with fail
    refine (awake_any w1).mono ?_
    rintro e w2 ⟨rfl, hb⟩
    have HB2 := Lib.hid (HB.out.trans (hb.mono HB.out.size))
    clear hb
    go_wp2_with fail
    go_ret
    exact ⟨rfl, HB2.out⟩
  have c0 : (CR.u x == 0) = false := beq_eq_false_iff_ne.2 hx0
  clear hx0
  by_cases hz : bchk b = 0
  · have HR : Hid (encB b = (str (fileB b), 0)) := Lib.hid (by unfold encB; rw [if_pos hz])
    rw [HR.out] at HEN2
    simp only [pairV] at HEN2
    obtain ⟨F, hF⟩ : ∃ F, str (fileB b) = F := ⟨_, rfl⟩
    have hfl := fileB_len20 b
    have HFE : Hid (bs F = fileB b) := Lib.hid (by rw [← hF, bs_str])
    have HFD := Lib.hid (dec_file b hz HF.out F HFE.out)
    have hfs : F.size = (fileB b).length := by rw [← bs_length, HFE.out]
    have hfx : F.size ≤ 71400 := by rw [hfs]; exact HF.out.file
    have hfy : 20 ≤ F.size := by omega
    rw [hF] at HEN2
    clear hF hfl hfs hz HR HF
    go_wp2_with (refine wpList_load_row rfl 24 (.tmp 3) rfl w.heap.size rfl 24 V (0, 0) _ HAT.out.out Try.underlying24 rfl (by rw [hvs]; exact size_blk) ?_)
    refine (HEN2.out w1 HB.out).mono ?_
    rintro e w2 ⟨rfl, hb⟩
    replace HB := Lib.hid (HB.out.trans (hb.mono HB.out.size))
    clear hb HEN2 HAT hvs
    have HX := Lib.hid hfx
    have HY := Lib.hid hfy
    have hfi : (F.size : Int) ≤ 71400 := by omega
    have hfj : (20 : Int) ≤ (F.size : Int) := by omega
    obtain ⟨st, hst⟩ : ∃ st, st = bit % (8 * F.size) := ⟨_, rfl⟩
    have hmod : (bit : Int) % (8 * (F.size : Int)) = (st : Int) := by rw [hst, Int.natCast_emod]; push_cast; rfl
    have hstl : (st : Int) < 571200 := by
      have : st < 8 * F.size := by rw [hst]; exact Nat.mod_lt _ (by omega)
      omega
    clear hst hfx hfy
    have hcv := fun w => run_bytes_of_string (P := Try.prog) w 9 33 5 F Try.underlying9 Try.underlying33 Try.underlying5
    go_upto_region 7 with fail
    generalize hcap : grownCap w2 F.size 0 5 = cap
    have HBUF : Hid (Buf (w2.alloc (.cells (bytesRow F cap) 5 ((bytesRow F cap).size, (bytesRow F cap).size + 1))).drew w2.heap.size (bs F)) := Lib.hid (by rw [← hcap]; exact (Buf.new w2 F).drew)
    have HBN : Hid (Below w.heap.size w (w2.alloc (.cells (bytesRow F cap) 5 ((bytesRow F cap).size, (bytesRow F cap).size + 1))).drew) := Lib.hid (below_drew (HB.out.alloc HB.out.size _))
    have HBW : Hid (w.heap.size ≤ w2.heap.size) := Lib.hid HB.out.size
    clear hcap hcv HB
    generalize (w2.alloc (.cells (bytesRow F cap) 5 ((bytesRow F cap).size, (bytesRow F cap).size + 1))).drew = w3 at *
    generalize w2.heap.size = Bf at *
    obtain ⟨M, hM⟩ : ∃ M : Int, 8 * (F.size : Int) = M := ⟨_, rfl⟩
    have hM1 : M ≤ 571200 := by omega
    have hM0 : 0 < M := by omega
    have hMn : ¬ M = 0 := by omega
    rw [hM] at hmod
    have htmod : Int.tmod (bit : Int) M = (st : Int) := by rw [Int.tmod_eq_emod_of_nonneg (by omega)]; exact hmod
    have HMOD := Lib.hid (And.intro hmod htmod)
    have HMM := Lib.hid (And.intro hM (And.intro hM1 hM0))
    have HMN := Lib.hid hMn
    have HST := Lib.hid hstl
    have HFI := Lib.hid hfi
    have hz1 : ((F.size : Int) == 0) = false := beq_eq_false_iff_ne.2 (by omega)
    have HFJ := Lib.hid hfj
    clear hfj hmod htmod hM hM1 hM0 hMn hstl hfi
    go_upto_region 9 with fail
    clear hz1
    go_wp2_with fail
    go_loopw [34] (fun i wr => ∃ k : Nat, k ≤ 32 ∧ i = .int .i64 k ∧ Hid (Buf wr Bf (dmgTo (bs F) x.toNat st k)) ∧ Hid (Below w.heap.size w wr)) (fun i _ => 32 - (intOf i).toNat)
    case atStart => exact ⟨0, Nat.zero_le _, rfl, HBUF, HBN⟩
    case round =>
      clear HBUF HBN
      obtain ⟨k, hk, rfl, HU, HBN⟩ := hrel
      by_cases hlt : k < 32
      · have hb1 := u_bit1 (x >>> k)
        rw [shr_bit] at hb1
        have hsh := CR.u_shr x k (2 ^ k) rfl
        rcases hx : x.getLsbD k
        · rw [hx] at hb1
          have hb2 : Go.bits .and .u32 (CR.u (x >>> k)) 1 = 0 := hb1
          have HNX : Hid (Buf wr Bf (dmgTo (bs F) x.toNat st (k + 1))) := Lib.hid (by
            rw [dmg_no _ _ _ _ (by rw [← getLsbD_testBit, hx]; simp)]; exact HU.out)
          clear hb1 hx HU
          have hil : (k : Int) < 32 := by omega
          have hmod := HMOD.out.1
          have htmod := HMOD.out.2
          have hM := HMM.out.1
          have hM1 := HMM.out.2.1
          have hM0 := HMM.out.2.2
          have hMn := HMN.out
          have hstl := HST.out
          go_upto_region 13 with fail
          clear hmod htmod hM hM1 hM0 hMn
          go_wp2_with fail
          go_roundw
          case rel => exact ⟨k + 1, by omega, by go_num, HNX, HBN⟩
          case measure => simp [intOf]; omega
        · rw [hx] at hb1
          have hb2 : Go.bits .and .u32 (CR.u (x >>> k)) 1 = 1 := hb1
          have HTB : Hid (x.toNat.testBit k = true) := Lib.hid (by rw [← getLsbD_testBit]; exact hx)
          clear hb1 hx
          have hil : (k : Int) < 32 := by omega
          have hmod := HMOD.out.1
          have htmod := HMOD.out.2
          have hM := HMM.out.1
          have hM1 := HMM.out.2.1
          have hM0 := HMM.out.2.2
          have hMn := HMN.out
          have hstl := HST.out
          go_upto_region 13 with fail
          clear hmod htmod hM hM1 hM0 hMn
          by_cases hr : (st + k) / 8 < F.size
          · have q3 : (st + k) / 8 < (dmgTo (bs F) x.toNat st k).length := by rw [dmgTo_length, bs_length]; exact hr
            have hri : ((st : Int) + (k : Int)) / 8 < (F.size : Int) := by omega
            have HNX : Hid (Buf (wr.setCell ⟨Bf, (st + k) / 8, none⟩ (.int .u8 ((dmgTo (bs F) x.toNat st k)[(st + k) / 8] ^^^ (1 : UInt8) <<< UInt8.ofNat ((st + k) % 8)).toNat)) Bf (dmgTo (bs F) x.toNat st (k + 1))) := Lib.hid (by
              rw [← dmg_yes _ _ _ _ HTB.out q3]
              exact HU.out.set _ q3 _)
            have g0 := HU.out.cell _ q3
            have g1 := HU.out.free _ q3
            have t1 : (((st : Int) + (k : Int)) / 8).toNat = (st + k) / 8 := by omega
            have t3 : 0 ≤ ((st : Int) + (k : Int)) / 8 := by omega
            have hxb := xor_byte ((dmgTo (bs F) x.toNat st k)[(st + k) / 8]) ((st + k) % 8) (Nat.mod_lt _ (by decide))
            generalize ((dmgTo (bs F) x.toNat st k)[(st + k) / 8] ^^^ (1 : UInt8) <<< UInt8.ofNat ((st + k) % 8)) = z at *
            generalize (dmgTo (bs F) x.toNat st k)[(st + k) / 8] = ch at *
            clear HU q3 hr
            go_wp2_with fail
            go_region
            go_wp2_with fail
            go_roundw
            case rel => exact ⟨k + 1, by omega, by go_num, Lib.hid HNX.out.drew, Lib.hid (below_drew (HBN.out.setCell HBW.out _))⟩
            case measure => simp [intOf]; omega
          · have hri : ¬ ((st : Int) + (k : Int)) / 8 < (F.size : Int) := by omega
            have HNX : Hid (Buf wr Bf (dmgTo (bs F) x.toNat st (k + 1))) := Lib.hid (by
              rw [dmg_no _ _ _ _ (fun h => hr (by have := h.2; rw [bs_length] at this; exact this))]; exact HU.out)
            clear HU hr
            go_wp2_with fail
            go_roundw
            case rel => exact ⟨k + 1, by omega, by go_num, HNX, HBN⟩
            case measure => simp [intOf]; omega
      · obtain rfl : k = 32 := by omega
        have hil : ¬ ((32 : Nat) : Int) < 32 := by omega
        have HNR := Lib.hid (dmg_near (bs F) x.toNat st)
        have hll := dmgTo_length (bs F) x.toNat st 32
        rw [bs_length] at hll
        obtain ⟨l, hl⟩ : ∃ l, dmgTo (bs F) x.toNat st 32 = l := ⟨_, rfl⟩
        rw [hl] at HNR HU hll
        clear hl
        have hst := HU.out.str cap
        rw [hll] at hst
        obtain ⟨S, hS⟩ : ∃ S, str l = S := ⟨_, rfl⟩
        rw [hS] at hst
        have HSS : Hid (S.size ≤ 100000) := Lib.hid (by rw [← hS, str_size, hll]; have := HX.out; omega)
        have HND : Hid (decE S = 0 → S = F) := Lib.hid (fun h => near_dec F S (by rw [← hS, bs_str]; exact HNR.out) HFD.out.1 h)
        have HSB := Lib.hid hS
        have HLL := Lib.hid hll
        clear hS hll HNR
        go_wp2_with fail
        refine (decode_any S wr HSS.out).mono ?_
        unfold DPost
        rintro e w5 ⟨hb, A2, c2, rfl, hck, hcc⟩
        replace HU := Lib.hid (HU.out.below hb)
        replace HBN := Lib.hid (HBN.out.trans (hb.mono HBN.out.size))
        obtain ⟨T, hT⟩ : ∃ T, T = blC (decR S) A2 c2 := ⟨_, rfl⟩
        rw [← hT]
        have hts : T.size = 4 := by rw [hT]; rfl
        have HT1 : Hid ((T.all fun v => v.oneCell') = true) := Lib.hid (by rw [hT]; exact blC_one _ _ _)
        have HT := Lib.hid hT
        clear hb hck hcc hT hst
        have HTX := Lib.hid (At.new w5 #[.int .i64 0, .int .i64 0, .int .i64 0, .slice none 0 0] 24)
        go_wp2_with (refine wpList_store_at rfl 24 (.tmp 12) (.tmp 72) rfl w5.heap.size T rfl rfl 24 _ HTX.out (by rw [hts]; exact size_blk) hts.symm HT1.out ?_)
        intro w6 HW6
        have HRR : Hid (Below w5.heap.size w5 w6) := Lib.hid (by rw [HW6.out]; exact below_row ((Below.refl _ _).alloc (Nat.le_refl _) _) _ _ (Nat.le_refl _))
        have HT6 : Hid (At w6 w5.heap.size T 24) := Lib.hid (by rw [HW6.out]; exact HTX.out.row)
        replace HU := Lib.hid (HU.out.below HRR.out)
        replace HBN := Lib.hid (HBN.out.trans (HRR.out.mono HBN.out.size))
        have hst := HU.out.str cap
        rw [HLL.out, HSB.out] at hst
        clear HW6 HRR HTX HU
        by_cases hd : decE S = 0
        · have he : (S.toList == F.toList) = true := by rw [HND.out hd]; exact beq_self_eq_true _
          clear hd
          go_wp2_with fail
          refine (awake_any w6).mono ?_
          rintro e w7 ⟨rfl, hb⟩
          replace HBN := Lib.hid (HBN.out.trans (hb.mono HBN.out.size))
          clear hb
          go_wp2_with fail
          go_ret
          exact ⟨rfl, HBN.out⟩
        · have hne : S ≠ F := fun h => hd (by rw [h]; exact HFD.out.1)
          have he : (S.toList == F.toList) = false := by
            rw [beq_eq_false_iff_ne]
            exact fun h => hne (CR.str_eq h)
          have d1 : (decE S != 0) = true := bne_iff_ne.2 hd
          have e3 : w6.cell? ⟨w5.heap.size, 3, none⟩ = some (.slice A2 0 c2) := by rw [HT6.out.cell, HT.out, decR_bad hd]; rfl
          obtain ⟨er, her⟩ : ∃ er, decE S = er := ⟨_, rfl⟩
          rw [her] at d1
          rw [her]
          clear hd hne her
          go_wp2_with fail
          refine (awake_any w6).mono ?_
          rintro e w7 ⟨rfl, hb⟩
          replace HBN := Lib.hid (HBN.out.trans (hb.mono HBN.out.size))
          clear hb
          go_wp2_with fail
          go_ret
          exact ⟨rfl, HBN.out⟩
  · have d : (bchk b != 0) = true := bne_iff_ne.2 hz
    have HR : Hid (encB b = (⟨#[]⟩, bchk b)) := Lib.hid (by unfold encB; rw [if_neg hz])
    rw [HR.out] at HEN2
    simp only [pairV] at HEN2
    clear hz HR HF
    go_wp2_with (refine wpList_load_row rfl 24 (.tmp 3) rfl w.heap.size rfl 24 V (0, 0) _ HAT.out.out Try.underlying24 rfl (by rw [hvs]; exact size_blk) ?_)
    refine (HEN2.out w1 HB.out).mono ?_
    rintro e w2 ⟨rfl, hb⟩
    replace HB := Lib.hid (HB.out.trans (hb.mono HB.out.size))
    clear hb HEN2
    go_wp2_with fail
    refine (awake_any w2).mono ?_
    rintro e w3 ⟨rfl, hb⟩
    have HB2 := Lib.hid (HB.out.trans (hb.mono HB.out.size))
    clear hb
    go_wp2_with fail
    go_ret
    exact ⟨rfl, HB2.out⟩
theorem wkDamage (b : Blk) (A : Option Addr) (c : Nat) (m k : Int) (w : World) (h : BlkOk w b A c) (hm : (Lit.int .u32 m).wf = true) (hk : (Lit.int .u16 k).wf = true) : Calls Try.prog 4 #[.agg (blC b A c), .int .u32 m, .int .u16 k] w fun e w' => e = .returned (.bool true) ∧ Below w.heap.size w w' := by
  obtain ⟨x, rfl⟩ := wf32 hm
  have h2 := wf16 hk
  obtain ⟨n, rfl⟩ : ∃ n : Nat, k = (n : Int) := ⟨k.toNat, by omega⟩
  exact lawDamage_any b A c x n (by omega) w h
end Go.Proofs.Ytoojpfcnekpboaa
