/- Walks: a zone that is read (the program's). -/
import Derived.Test.YtoojpfcnekpboaaGreatZAV
import Derived.Test.YtoojpfcnekpboaaGreatZAJ
namespace Go.Proofs.YtoojpfcnekpboaaGreat
open Go.RowKit Go.Shelf

theorem results_row_tmp {P : Program} {fn : Func} {p q : Tmp} {ty : TypeId} (h : fn.results = #[.cell p ty, .tmp q]) (tmps : Array Value) (w : World) (g : Nat) (t : TypeId) (cs : Array Value) (d : TypeDesc)
    (hp : tmps.getD p undef = .pointer (some ⟨g, 0, none⟩)) (hg : At w g cs t) (hu : P.underlying ty = some d) (hd : (match d with | .struct _ | .array _ _ => true | _ => false) = true) (hi : (P.info? ty).map (·.size) = some cs.size) :
    (results fn tmps).run P w = .ok (.tuple #[.agg cs, tmps.getD q undef]) w := by
  rw [Array.getD_eq_getD_getElem?] at hp ⊢
  simp [results, h, hp, asAddr, run_loadVar_row w g t ty cs (0, 0) d hg.out hu hd hi]
def ZPost (s : ByteArray) (w : World) (e : Ending) (w' : World) : Prop := (∃ z b, e = .returned (.tuple #[.agg (Zn.cells z), .bool b]) ∧ zP s = if b = true then some z else none) ∧ Below w.heap.size w w'
theorem zn_one (z : Zn) : (z.cells.all fun x => x.oneCell') = true := by simp [Zn.cells, Value.oneCell']
theorem slice_from (s : ByteArray) (q : Nat) : s.extract q s.size = cutS s q := rfl
theorem sh_byte (k : Nat) (c : UInt8) : Op.shift BinOp.shl IntKind.u32 (IntKind.u32.wrap (c.toNat : Int)) IntKind.i64 (IntKind.i64.wrap ((k : Int).tmod 4 * 8)) = pure (.int .u32 ((c.toNat * 256 ^ (k % 4) : Nat) : Int)) := by
  have hc := c.toNat_lt
  have h1 : IntKind.u32.wrap (c.toNat : Int) = (c.toNat : Int) := by rw [IntKind.wrap_u32]; omega
  have h2 : (k : Int).tmod 4 = ((k % 4 : Nat) : Int) := by rw [Int.tmod_eq_emod_of_nonneg (by omega)]; omega
  have h3 : IntKind.i64.wrap (((k % 4 : Nat) : Int) * 8) = ((k % 4 * 8 : Nat) : Int) := by rw [IntKind.wrap_i64]; omega
  rw [h1, h2, h3, shift_shl .u32 .i64 (c.toNat : Int) ((k % 4 * 8 : Nat) : Int) (by omega) (by show _ ≤ (32 : Int); omega)]
  have h4 : ((k % 4 * 8 : Nat) : Int).toNat = 8 * (k % 4) := by omega
  have h5 : (c.toNat : Int) * 2 ^ (8 * (k % 4)) = ((c.toNat * 256 ^ (k % 4) : Nat) : Int) := by
    rw [show (256 : Nat) ^ (k % 4) = 2 ^ (8 * (k % 4)) by rw [Nat.pow_mul]]
    push_cast
    rfl
  have h6 : c.toNat * 256 ^ (k % 4) < 4294967296 := by
    have h7 : (256 : Nat) ^ (k % 4) ≤ 256 ^ 3 := Nat.pow_le_pow_right (by decide) (by omega)
    have h8 : c.toNat * 256 ^ (k % 4) ≤ 255 * 256 ^ 3 := Nat.mul_le_mul (by omega) h7
    omega
  rw [h4, h5, IntKind.wrap_u32]
  congr 2
  omega
theorem or_byte (a c r : Nat) (ha : a < 256 ^ r) (hc : c < 256) (hr : r < 4) : binOp BinOp.or 47 (.int .u32 (a : Int)) (.int .u32 ((c * 256 ^ r : Nat) : Int)) = pure (.int .u32 ((a + c * 256 ^ r : Nat) : Int)) := by
  have e : (256 : Nat) ^ r = 2 ^ (8 * r) := by rw [Nat.pow_mul]
  have h7 : (256 : Nat) ^ r ≤ 256 ^ 3 := Nat.pow_le_pow_right (by decide) (by omega)
  have h8 : c * 256 ^ r ≤ 255 * 256 ^ 3 := Nat.mul_le_mul (by omega) h7
  have hor : a ||| c * 256 ^ r = a + c * 256 ^ r := by
    rw [e] at ha ⊢
    have h1 := Nat.two_pow_add_eq_or_of_lt (i := 8 * r) (b := a) ha c
    rw [Nat.or_comm, Nat.mul_comm c, ← h1]
    omega
  have := (bits_nat .u32 32 (by decide) (fun n _ _ => by rw [IntKind.wrap_u32]; omega) a (c * 256 ^ r) (by omega) (by omega)).2
  rw [hor] at this
  show pure (Value.int .u32 (bits .or .u32 (a : Int) ((c * 256 ^ r : Nat) : Int))) = _
  rw [this]
/-- The fields' cells. -/
def fC (a b c d : Int) : Array Value := #[.int .i64 a, .int .i64 b, .int .i64 c, .int .i64 d]

set_option maxRecDepth 100000 in
set_option maxHeartbeats 4000000 in
theorem zparse_any (s : ByteArray) (w : World) (hs : s.size ≤ 1000000) :
    Calls Tryz.prog 158 #[.string s] w (ZPost s w) := by
  have hr0 := rdG_ok s
  have HZP : Hid (zP s = if (rdG s).2.2 ≠ 0 then none else if (rdG s).1 = 0 then (if (cutS s (rdG s).2.1.toNat).size = 0 then some Zn.zero else none) else zFin (rdG s).1 (zF (cutS s (rdG s).2.1.toNat) 4)) := Lib.hid rfl
  have HRD := Lib.hid (fun w => read_any s w (by omega))
  obtain ⟨⟨c, q, er⟩, hp⟩ : ∃ p, rdG s = p := ⟨_, rfl⟩
  rw [hp] at HZP hr0 HRD
  simp only [tripV] at HZP HRD
  have A0 := At.new w Zn.zero.cells 50
  have A1 := At.new (w.alloc (.cells Zn.zero.cells 50)) Zn.zero.cells 50
  have HB0 : Hid (Below w.heap.size w ((w.alloc (.cells Zn.zero.cells 50)).alloc (.cells Zn.zero.cells 50))) := Lib.hid (((Below.refl _ _).alloc (Nat.le_refl _) _).alloc (by simp) _)
  have HA0 := Lib.hid (A0.alloc (.cells Zn.zero.cells 50))
  have HA1 := Lib.hid A1
  have e1 : (w.alloc (.cells Zn.zero.cells 50)).heap.size = w.heap.size + 1 := by simp
  rw [e1] at HA1
  clear A0 A1 e1 hp
  go_enter Tryz.func158, Tryz.ntmps158
  go_upto_region 2 with fail
  change Code.wp _ _ _ _ ((w.alloc (.cells Zn.zero.cells 50)).alloc (.cells Zn.zero.cells 50))
  obtain ⟨B1, hB1⟩ : ∃ B1, w.heap.size + 1 = B1 := ⟨_, rfl⟩
  rw [hB1] at HA1
  rw [hB1]
  generalize (w.alloc (.cells Zn.zero.cells 50)).alloc (.cells Zn.zero.cells 50) = wa at *
  have HBB := Lib.hid hB1
  clear hB1
  go_wp2_with fail
  refine (HRD.out wa).mono ?_
  rintro e w1 ⟨rfl, hb⟩
  have HA0' := Lib.hid (HA0.out.below hb)
  have HA1' := Lib.hid (HA1.out.below hb)
  have HB1 := Lib.hid (HB0.out.trans (hb.mono HB0.out.size))
  clear hb HA0 HA1 HB0 HRD
  by_cases her : er = 0
  · subst her
    obtain ⟨m, rfl, hm, rfl, hlen, _⟩ := hr0 c q rfl
    have hc0 : (0 : Int) ≤ (m : Int) := by omega
    clear hr0
    have c0 : w1.cell? ⟨B1, 0, none⟩ = some (.int .i64 0) := HA1'.out.cell 0
    have f0 : w1.frozen? ⟨B1, 0, none⟩ = false := HA1'.out.free 0
    obtain ⟨L, hL⟩ : ∃ L, (vE m).length = L := ⟨_, rfl⟩
    rw [hL] at HZP hlen
    rw [hL]
    rw [Int.toNat_natCast] at HZP
    clear hL
    obtain ⟨s1, hs1⟩ : ∃ s1, s.extract L s.size = s1 := ⟨_, rfl⟩
    rw [show cutS s L = s1 from hs1] at HZP
    have hsz : s1.size ≤ 1000000 := by rw [← hs1, ByteArray.size_extract]; omega
    have HA2 : Hid (At (w1.setCell ⟨B1, 0, none⟩ (.int .i64 m)) B1 (Zn.mk m 0 0 0 0 0 0 0 0 0 0 0 0).cells 50) := Lib.hid (HA1'.out.set 0 _)
    have hne : w.heap.size ≠ B1 := by have := HBB.out; omega
    have HA3 : Hid (At (w1.setCell ⟨B1, 0, none⟩ (.int .i64 m)) w.heap.size Zn.zero.cells 50) := Lib.hid (HA0'.out.other _ hne)
    have HB2 : Hid (Below w.heap.size w (w1.setCell ⟨B1, 0, none⟩ (.int .i64 m))) := Lib.hid (HB1.out.setCell (p := ⟨B1, 0, none⟩) (by have := HBB.out; show w.heap.size ≤ B1; omega) _)
    by_cases hm0 : m = 0
    · subst hm0
      have HF : Hid (zP s = if s1.size = 0 then some Zn.zero else none) := Lib.hid (by rw [HZP.out, if_neg (by decide), if_pos (show ((0 : Nat) : Int) = 0 from rfl)])
      clear HZP
      by_cases hz : s1.size = 0
      · have hz2 : s1.toList = [] := by rw [ByteArray.toList_eq]; exact List.eq_nil_of_length_eq_zero hz
        have hz3 : s1.toList.isEmpty = true := by rw [hz2]; rfl
        have HF2 : Hid (zP s = some Zn.zero) := Lib.hid (by rw [HF.out, if_pos hz])
        clear hz HF
        go_upto_region 8 with fail
        generalize w1.setCell ⟨B1, 0, none⟩ (.int .i64 0) = w2 at *
        go_wp2_with (first | (refine wpList_load_row rfl 50 (.tmp 4) rfl B1 rfl 50 Zn.zero.cells (0, 0) _ HA2.out.out Tryz.underlying50 rfl size_zone ?_) | (refine wpList_store_at rfl 50 (.tmp 2) (.tmp 27) rfl w.heap.size Zn.zero.cells rfl rfl 50 Zn.zero.cells HA3.out size_zone rfl (zn_one _) ?_))
        intro w9 HW9
        have HA9 := Lib.hid (HA3.out.row (c' := Zn.zero.cells))
        rw [← HW9.out] at HA9
        have HB9 : Hid (Below w.heap.size w w9) := Lib.hid (by rw [HW9.out]; exact below_row HB2.out _ _ (Nat.le_refl _))
        go_wp2_with fail
        refine bodyPost_ret (results_row_tmp rfl _ _ w.heap.size 50 Zn.zero.cells _ rfl HA9.out Tryz.underlying50 rfl size_zone) rfl ⟨⟨Zn.zero, true, rfl, HF2.out⟩, HB9.out⟩
      · have hz2 : s1.toList ≠ [] := fun h => hz (by have := congrArg List.length h; rw [ByteArray.toList_eq, ← bs, bs_length] at this; exact this)
        have hz3 : s1.toList.isEmpty = false := by cases hq : s1.toList with
          | nil => exact absurd hq hz2
          | cons _ _ => rfl
        have HF2 : Hid (zP s = none) := Lib.hid (by rw [HF.out, if_neg hz])
        clear hz HF
        go_upto_region 8 with fail
        generalize w1.setCell ⟨B1, 0, none⟩ (.int .i64 0) = w2 at *
        go_wp2_with (first | (refine wpList_load_row rfl 50 (.tmp 4) rfl B1 rfl 50 Zn.zero.cells (0, 0) _ HA2.out.out Tryz.underlying50 rfl size_zone ?_) | (refine wpList_store_at rfl 50 (.tmp 2) (.tmp 27) rfl w.heap.size Zn.zero.cells rfl rfl 50 Zn.zero.cells HA3.out size_zone rfl (zn_one _) ?_))
        intro w9 HW9
        have HA9 := Lib.hid (HA3.out.row (c' := Zn.zero.cells))
        rw [← HW9.out] at HA9
        have HB9 : Hid (Below w.heap.size w w9) := Lib.hid (by rw [HW9.out]; exact below_row HB2.out _ _ (Nat.le_refl _))
        go_wp2_with fail
        refine bodyPost_ret (results_row_tmp rfl _ _ w.heap.size 50 Zn.zero.cells _ rfl HA9.out Tryz.underlying50 rfl size_zone) rfl ⟨⟨Zn.zero, false, rfl, HF2.out⟩, HB9.out⟩
    · have d2 : ((m : Int) == 0) = false := beq_eq_false_iff_ne.2 (by omega)
      have HF : Hid (zP s = zFin m (zF s1 4)) := Lib.hid (by rw [HZP.out, if_neg (by decide), if_neg (by omega)])
      clear HZP hm0
      go_upto_region 9 with fail
      generalize w1.setCell ⟨B1, 0, none⟩ (.int .i64 m) = w2 at *
      have HAF : Hid (At (w2.alloc (.cells (fC 0 0 0 0) 245)) w2.heap.size (fC 0 0 0 0) 245) := Lib.hid (At.new _ _ _)
      have HA4 := Lib.hid (HA2.out.alloc (.cells (fC 0 0 0 0) 245))
      have HA5 := Lib.hid (HA3.out.alloc (.cells (fC 0 0 0 0) 245))
      have HB3 := Lib.hid (HB2.out.alloc HB2.out.size (.cells (fC 0 0 0 0) 245))
      have HLT : Hid (w.heap.size < B1 ∧ B1 < w2.heap.size) := Lib.hid ⟨by have := HBB.out; omega, HA2.out.lt⟩
      go_upto_region 10 with fail
      change Code.wp _ _ _ _ (w2.alloc (.cells (fC 0 0 0 0) 245))
      generalize hF : w2.heap.size = F at *
      generalize w2.alloc (.cells (fC 0 0 0 0) 245) = w3 at *
      have HS1 := Lib.hid hsz
      clear hF HA2 HA3 HB2 HA0' HA1' HB1 hs1 hsz hs hm hlen c0 f0
      go_wp2_with fail
      go_loopw [0, 30] (fun sv i wr => ∃ (k : Nat) (f0 f1 f2 f3 : Int) (t : ByteArray), k ≤ 4 ∧ sv = .string t ∧ i = .int .i64 k ∧ Hid (zF s1 k = some ([f0, f1, f2, f3].take k, t)) ∧ Hid (At wr F (fC f0 f1 f2 f3) 245) ∧ Hid (At wr B1 (Zn.mk m 0 0 0 0 0 0 0 0 0 0 0 0).cells 50) ∧ Hid (At wr w.heap.size Zn.zero.cells 50) ∧ Hid (Below w.heap.size w wr) ∧ Hid (t.size ≤ 1000000) ∧
          Hid ((-1152921504606846976 ≤ f0 ∧ f0 ≤ 1152921504606846976) ∧ (-1152921504606846976 ≤ f1 ∧ f1 ≤ 1152921504606846976) ∧ (-1152921504606846976 ≤ f2 ∧ f2 ≤ 1152921504606846976) ∧ (-1152921504606846976 ≤ f3 ∧ f3 ≤ 1152921504606846976))) (fun _ i _ => 4 - (intOf i).toNat)
      case atStart => exact ⟨0, 0, 0, 0, 0, s1, by decide, rfl, rfl, Lib.hid rfl, HAF, HA4, HA5, HB3, HS1, Lib.hid (by decide)⟩
      case round =>
        obtain ⟨k, f0, f1, f2, f3, t, hk, rfl, rfl, HZ, HF4, HZ1, HZ0, HBW, HTS, HBN⟩ := hrel
        have hne : w.heap.size ≠ B1 := by have := HLT.out; omega
        have hn2 : F ≠ B1 := by have := HLT.out; omega
        have hn3 : F ≠ w.heap.size := by have := HLT.out; omega
        have HNE := Lib.hid (And.intro hne.symm (And.intro hn2.symm hn3.symm))
        have hFw : w.heap.size ≤ F := by have := HLT.out; omega
        by_cases hlt : k < 4
        · have h4 : k = 0 ∨ k = 1 ∨ k = 2 ∨ k = 3 := by omega
          rcases h4 with rfl | rfl | rfl | rfl
          · have hok := rdK_ok 0 t
            have HST := Lib.hid (fun hb => zF_step (s := s1) (k := 0) HZ.out hb)
            have HNO := Lib.hid (fun hb => zF_stop (s := s1) (k := 0) HZ.out hb (by decide))
            have HC : Hid (∀ w, Calls Tryz.prog 126 #[.string t] w fun e w' => e = .returned (tripV (rdK 0 t)) ∧ Below w.heap.size w w') := Lib.hid (fun w => read_any t w (by have := HTS.out; omega))
            have HBD : Hid ((rdK 0 t).2.2 ≠ 0 → (rdK 0 t).1 = 0) := Lib.hid (fun h => (rdG_bad t h).1)
            obtain ⟨⟨n, q, er⟩, hp⟩ : ∃ p, rdK 0 t = p := ⟨_, rfl⟩
            rw [hp] at hok HST HNO HC HBD
            simp only [tripV] at HC HST HNO hok HBD
            clear hp
            go_wp2_with fail
            refine (HC.out wr).mono ?_
            rintro e w5 ⟨rfl, hb⟩
            have hF5 := HF4.out.below hb
            have HZ15 := Lib.hid ((HZ1.out.below hb).other (a := ⟨F, 0, none⟩) (.int .i64 n) HNE.out.2.1)
            have HZ05 := Lib.hid ((HZ0.out.below hb).other (a := ⟨F, 0, none⟩) (.int .i64 n) HNE.out.2.2)
            have HB5 := Lib.hid ((HBW.out.trans (hb.mono HBW.out.size)).setCell (p := ⟨F, 0, none⟩) hFw (.int .i64 n))
            have HF5 : Hid (At (w5.setCell ⟨F, 0, none⟩ (.int .i64 n)) F (fC n f1 f2 f3) 245) := Lib.hid (hF5.set 0 _)
            have c5 : w5.cell? ⟨F, 0, none⟩ = some (.int .i64 f0) := hF5.cell 0
            have g5 : w5.frozen? ⟨F, 0, none⟩ = false := hF5.free 0
            clear hb hF5 HC
            by_cases her : er = 0
            · subst her
              obtain ⟨m0, _, rfl, hlen, _, _, hlo, hhi⟩ := hok rfl
              have HST2 := Lib.hid (HST.out rfl)
              clear hok HNO HST HBD
              obtain ⟨L2, hL2⟩ : ∃ L, (vE m0).length = L := ⟨_, rfl⟩
              rw [hL2] at hlen HST2
              rw [Int.toNat_natCast] at HST2
              rw [hL2]
              clear hL2
              go_upto_region 19 with fail
              generalize w5.setCell ⟨F, 0, none⟩ (.int .i64 n) = w6 at *
              go_wp2_with fail
              go_roundw
              case rel => exact ⟨1, n, f1, f2, f3, cutS t L2, by decide, rfl, by go_num, HST2, HF5, HZ15, HZ05, HB5, Lib.hid (by have := HTS.out; rw [cutS_size]; omega), Lib.hid (by have h := HBN.out; exact ⟨⟨hlo, hhi⟩, h.2.1, h.2.2.1, h.2.2.2⟩)⟩
              case measure => simp [intOf]
            · have d1 : (er != 0) = true := bne_iff_ne.2 her
              have HFF : Hid (zP s = none) := Lib.hid (by rw [HF.out, HNO.out her]; rfl)
              clear her hok HST HNO HBD
              go_upto_region 17 with fail
              generalize w5.setCell ⟨F, 0, none⟩ (.int .i64 n) = w6 at *
              go_wp2_with (first | (refine wpList_load_row rfl 50 (.tmp 4) rfl B1 rfl 50 (Zn.mk m 0 0 0 0 0 0 0 0 0 0 0 0).cells (0, 0) _ HZ15.out.out Tryz.underlying50 rfl size_zone ?_) | (refine wpList_store_at rfl 50 (.tmp 2) (.tmp 53) rfl w.heap.size (Zn.mk m 0 0 0 0 0 0 0 0 0 0 0 0).cells rfl rfl 50 Zn.zero.cells HZ05.out size_zone rfl (zn_one _) ?_))
              intro w9 HW9
              have HA9 := Lib.hid (HZ05.out.row (c' := (Zn.mk m 0 0 0 0 0 0 0 0 0 0 0 0).cells))
              rw [← HW9.out] at HA9
              have HB9 : Hid (Below w.heap.size w w9) := Lib.hid (by rw [HW9.out]; exact below_row HB5.out _ _ (Nat.le_refl _))
              go_wp2_with fail
              refine bodyPost_ret (results_row_tmp rfl _ _ w.heap.size 50 (Zn.mk m 0 0 0 0 0 0 0 0 0 0 0 0).cells _ rfl HA9.out Tryz.underlying50 rfl size_zone) rfl ⟨⟨(Zn.mk m 0 0 0 0 0 0 0 0 0 0 0 0), false, rfl, HFF.out⟩, HB9.out⟩
          · have hok := rdK_ok 1 t
            have HST := Lib.hid (fun hb => zF_step (s := s1) (k := 1) HZ.out hb)
            have HNO := Lib.hid (fun hb => zF_stop (s := s1) (k := 1) HZ.out hb (by decide))
            have HC : Hid (∀ w, Calls Tryz.prog 126 #[.string t] w fun e w' => e = .returned (tripV (rdK 1 t)) ∧ Below w.heap.size w w') := Lib.hid (fun w => read_any t w (by have := HTS.out; omega))
            have HBD : Hid ((rdK 1 t).2.2 ≠ 0 → (rdK 1 t).1 = 0) := Lib.hid (fun h => (rdG_bad t h).1)
            obtain ⟨⟨n, q, er⟩, hp⟩ : ∃ p, rdK 1 t = p := ⟨_, rfl⟩
            rw [hp] at hok HST HNO HC HBD
            simp only [tripV] at HC HST HNO hok HBD
            clear hp
            go_wp2_with fail
            refine (HC.out wr).mono ?_
            rintro e w5 ⟨rfl, hb⟩
            have hF5 := HF4.out.below hb
            have HZ15 := Lib.hid ((HZ1.out.below hb).other (a := ⟨F, 1, none⟩) (.int .i64 n) HNE.out.2.1)
            have HZ05 := Lib.hid ((HZ0.out.below hb).other (a := ⟨F, 1, none⟩) (.int .i64 n) HNE.out.2.2)
            have HB5 := Lib.hid ((HBW.out.trans (hb.mono HBW.out.size)).setCell (p := ⟨F, 1, none⟩) hFw (.int .i64 n))
            have HF5 : Hid (At (w5.setCell ⟨F, 1, none⟩ (.int .i64 n)) F (fC f0 n f2 f3) 245) := Lib.hid (hF5.set 1 _)
            have c5 : w5.cell? ⟨F, 1, none⟩ = some (.int .i64 f1) := hF5.cell 1
            have g5 : w5.frozen? ⟨F, 1, none⟩ = false := hF5.free 1
            clear hb hF5 HC
            by_cases her : er = 0
            · subst her
              obtain ⟨m0, _, rfl, hlen, _, _, hlo, hhi⟩ := hok rfl
              have HST2 := Lib.hid (HST.out rfl)
              clear hok HNO HST HBD
              obtain ⟨L2, hL2⟩ : ∃ L, (vE m0).length = L := ⟨_, rfl⟩
              rw [hL2] at hlen HST2
              rw [Int.toNat_natCast] at HST2
              rw [hL2]
              clear hL2
              go_upto_region 19 with fail
              generalize w5.setCell ⟨F, 1, none⟩ (.int .i64 n) = w6 at *
              go_wp2_with fail
              go_roundw
              case rel => exact ⟨2, f0, n, f2, f3, cutS t L2, by decide, rfl, by go_num, HST2, HF5, HZ15, HZ05, HB5, Lib.hid (by have := HTS.out; rw [cutS_size]; omega), Lib.hid (by have h := HBN.out; exact ⟨h.1, ⟨hlo, hhi⟩, h.2.2.1, h.2.2.2⟩)⟩
              case measure => simp [intOf]
            · have d1 : (er != 0) = true := bne_iff_ne.2 her
              have HFF : Hid (zP s = none) := Lib.hid (by rw [HF.out, HNO.out her]; rfl)
              clear her hok HST HNO HBD
              go_upto_region 17 with fail
              generalize w5.setCell ⟨F, 1, none⟩ (.int .i64 n) = w6 at *
              go_wp2_with (first | (refine wpList_load_row rfl 50 (.tmp 4) rfl B1 rfl 50 (Zn.mk m 0 0 0 0 0 0 0 0 0 0 0 0).cells (0, 0) _ HZ15.out.out Tryz.underlying50 rfl size_zone ?_) | (refine wpList_store_at rfl 50 (.tmp 2) (.tmp 53) rfl w.heap.size (Zn.mk m 0 0 0 0 0 0 0 0 0 0 0 0).cells rfl rfl 50 Zn.zero.cells HZ05.out size_zone rfl (zn_one _) ?_))
              intro w9 HW9
              have HA9 := Lib.hid (HZ05.out.row (c' := (Zn.mk m 0 0 0 0 0 0 0 0 0 0 0 0).cells))
              rw [← HW9.out] at HA9
              have HB9 : Hid (Below w.heap.size w w9) := Lib.hid (by rw [HW9.out]; exact below_row HB5.out _ _ (Nat.le_refl _))
              go_wp2_with fail
              refine bodyPost_ret (results_row_tmp rfl _ _ w.heap.size 50 (Zn.mk m 0 0 0 0 0 0 0 0 0 0 0 0).cells _ rfl HA9.out Tryz.underlying50 rfl size_zone) rfl ⟨⟨(Zn.mk m 0 0 0 0 0 0 0 0 0 0 0 0), false, rfl, HFF.out⟩, HB9.out⟩
          · have hok := rdK_ok 2 t
            have HST := Lib.hid (fun hb => zF_step (s := s1) (k := 2) HZ.out hb)
            have HNO := Lib.hid (fun hb => zF_stop (s := s1) (k := 2) HZ.out hb (by decide))
            have HC : Hid (∀ w, Calls Tryz.prog 179 #[.string t] w fun e w' => e = .returned (tripV (rdK 2 t)) ∧ Below w.heap.size w w') := Lib.hid (fun w => readSigned_any t w (by have := HTS.out; omega))
            have HBD : Hid ((rdK 2 t).2.2 ≠ 0 → (rdK 2 t).1 = 0) := Lib.hid (fun h => (rdS_bad t h).1)
            obtain ⟨⟨n, q, er⟩, hp⟩ : ∃ p, rdK 2 t = p := ⟨_, rfl⟩
            rw [hp] at hok HST HNO HC HBD
            simp only [tripV] at HC HST HNO hok HBD
            clear hp
            go_wp2_with fail
            refine (HC.out wr).mono ?_
            rintro e w5 ⟨rfl, hb⟩
            have hF5 := HF4.out.below hb
            have HZ15 := Lib.hid ((HZ1.out.below hb).other (a := ⟨F, 2, none⟩) (.int .i64 n) HNE.out.2.1)
            have HZ05 := Lib.hid ((HZ0.out.below hb).other (a := ⟨F, 2, none⟩) (.int .i64 n) HNE.out.2.2)
            have HB5 := Lib.hid ((HBW.out.trans (hb.mono HBW.out.size)).setCell (p := ⟨F, 2, none⟩) hFw (.int .i64 n))
            have HF5 : Hid (At (w5.setCell ⟨F, 2, none⟩ (.int .i64 n)) F (fC f0 f1 n f3) 245) := Lib.hid (hF5.set 2 _)
            have c5 : w5.cell? ⟨F, 2, none⟩ = some (.int .i64 f2) := hF5.cell 2
            have g5 : w5.frozen? ⟨F, 2, none⟩ = false := hF5.free 2
            clear hb hF5 HC
            by_cases her : er = 0
            · subst her
              obtain ⟨m0, _, rfl, hlen, _, _, hlo, hhi⟩ := hok rfl
              have HST2 := Lib.hid (HST.out rfl)
              clear hok HNO HST HBD
              obtain ⟨L2, hL2⟩ : ∃ L, (vE m0).length = L := ⟨_, rfl⟩
              rw [hL2] at hlen HST2
              rw [Int.toNat_natCast] at HST2
              rw [hL2]
              clear hL2
              go_upto_region 19 with fail
              generalize w5.setCell ⟨F, 2, none⟩ (.int .i64 n) = w6 at *
              go_wp2_with fail
              go_roundw
              case rel => exact ⟨3, f0, f1, n, f3, cutS t L2, by decide, rfl, by go_num, HST2, HF5, HZ15, HZ05, HB5, Lib.hid (by have := HTS.out; rw [cutS_size]; omega), Lib.hid (by have h := HBN.out; exact ⟨h.1, h.2.1, ⟨hlo, hhi⟩, h.2.2.2⟩)⟩
              case measure => simp [intOf]
            · have d1 : (er != 0) = true := bne_iff_ne.2 her
              have HFF : Hid (zP s = none) := Lib.hid (by rw [HF.out, HNO.out her]; rfl)
              clear her hok HST HNO HBD
              go_upto_region 17 with fail
              generalize w5.setCell ⟨F, 2, none⟩ (.int .i64 n) = w6 at *
              go_wp2_with (first | (refine wpList_load_row rfl 50 (.tmp 4) rfl B1 rfl 50 (Zn.mk m 0 0 0 0 0 0 0 0 0 0 0 0).cells (0, 0) _ HZ15.out.out Tryz.underlying50 rfl size_zone ?_) | (refine wpList_store_at rfl 50 (.tmp 2) (.tmp 53) rfl w.heap.size (Zn.mk m 0 0 0 0 0 0 0 0 0 0 0 0).cells rfl rfl 50 Zn.zero.cells HZ05.out size_zone rfl (zn_one _) ?_))
              intro w9 HW9
              have HA9 := Lib.hid (HZ05.out.row (c' := (Zn.mk m 0 0 0 0 0 0 0 0 0 0 0 0).cells))
              rw [← HW9.out] at HA9
              have HB9 : Hid (Below w.heap.size w w9) := Lib.hid (by rw [HW9.out]; exact below_row HB5.out _ _ (Nat.le_refl _))
              go_wp2_with fail
              refine bodyPost_ret (results_row_tmp rfl _ _ w.heap.size 50 (Zn.mk m 0 0 0 0 0 0 0 0 0 0 0 0).cells _ rfl HA9.out Tryz.underlying50 rfl size_zone) rfl ⟨⟨(Zn.mk m 0 0 0 0 0 0 0 0 0 0 0 0), false, rfl, HFF.out⟩, HB9.out⟩
          · have hok := rdK_ok 3 t
            have HST := Lib.hid (fun hb => zF_step (s := s1) (k := 3) HZ.out hb)
            have HNO := Lib.hid (fun hb => zF_stop (s := s1) (k := 3) HZ.out hb (by decide))
            have HC : Hid (∀ w, Calls Tryz.prog 126 #[.string t] w fun e w' => e = .returned (tripV (rdK 3 t)) ∧ Below w.heap.size w w') := Lib.hid (fun w => read_any t w (by have := HTS.out; omega))
            have HBD : Hid ((rdK 3 t).2.2 ≠ 0 → (rdK 3 t).1 = 0) := Lib.hid (fun h => (rdG_bad t h).1)
            obtain ⟨⟨n, q, er⟩, hp⟩ : ∃ p, rdK 3 t = p := ⟨_, rfl⟩
            rw [hp] at hok HST HNO HC HBD
            simp only [tripV] at HC HST HNO hok HBD
            clear hp
            go_wp2_with fail
            refine (HC.out wr).mono ?_
            rintro e w5 ⟨rfl, hb⟩
            have hF5 := HF4.out.below hb
            have HZ15 := Lib.hid ((HZ1.out.below hb).other (a := ⟨F, 3, none⟩) (.int .i64 n) HNE.out.2.1)
            have HZ05 := Lib.hid ((HZ0.out.below hb).other (a := ⟨F, 3, none⟩) (.int .i64 n) HNE.out.2.2)
            have HB5 := Lib.hid ((HBW.out.trans (hb.mono HBW.out.size)).setCell (p := ⟨F, 3, none⟩) hFw (.int .i64 n))
            have HF5 : Hid (At (w5.setCell ⟨F, 3, none⟩ (.int .i64 n)) F (fC f0 f1 f2 n) 245) := Lib.hid (hF5.set 3 _)
            have c5 : w5.cell? ⟨F, 3, none⟩ = some (.int .i64 f3) := hF5.cell 3
            have g5 : w5.frozen? ⟨F, 3, none⟩ = false := hF5.free 3
            clear hb hF5 HC
            by_cases her : er = 0
            · subst her
              obtain ⟨m0, _, rfl, hlen, _, _, hlo, hhi⟩ := hok rfl
              have HST2 := Lib.hid (HST.out rfl)
              clear hok HNO HST HBD
              obtain ⟨L2, hL2⟩ : ∃ L, (vE m0).length = L := ⟨_, rfl⟩
              rw [hL2] at hlen HST2
              rw [Int.toNat_natCast] at HST2
              rw [hL2]
              clear hL2
              go_upto_region 19 with fail
              generalize w5.setCell ⟨F, 3, none⟩ (.int .i64 n) = w6 at *
              go_wp2_with fail
              go_roundw
              case rel => exact ⟨4, f0, f1, f2, n, cutS t L2, by decide, rfl, by go_num, HST2, HF5, HZ15, HZ05, HB5, Lib.hid (by have := HTS.out; rw [cutS_size]; omega), Lib.hid (by have h := HBN.out; exact ⟨h.1, h.2.1, h.2.2.1, ⟨hlo, hhi⟩⟩)⟩
              case measure => simp [intOf]
            · have d1 : (er != 0) = true := bne_iff_ne.2 her
              have HFF : Hid (zP s = none) := Lib.hid (by rw [HF.out, HNO.out her]; rfl)
              clear her hok HST HNO HBD
              go_upto_region 17 with fail
              generalize w5.setCell ⟨F, 3, none⟩ (.int .i64 n) = w6 at *
              go_wp2_with (first | (refine wpList_load_row rfl 50 (.tmp 4) rfl B1 rfl 50 (Zn.mk m 0 0 0 0 0 0 0 0 0 0 0 0).cells (0, 0) _ HZ15.out.out Tryz.underlying50 rfl size_zone ?_) | (refine wpList_store_at rfl 50 (.tmp 2) (.tmp 53) rfl w.heap.size (Zn.mk m 0 0 0 0 0 0 0 0 0 0 0 0).cells rfl rfl 50 Zn.zero.cells HZ05.out size_zone rfl (zn_one _) ?_))
              intro w9 HW9
              have HA9 := Lib.hid (HZ05.out.row (c' := (Zn.mk m 0 0 0 0 0 0 0 0 0 0 0 0).cells))
              rw [← HW9.out] at HA9
              have HB9 : Hid (Below w.heap.size w w9) := Lib.hid (by rw [HW9.out]; exact below_row HB5.out _ _ (Nat.le_refl _))
              go_wp2_with fail
              refine bodyPost_ret (results_row_tmp rfl _ _ w.heap.size 50 (Zn.mk m 0 0 0 0 0 0 0 0 0 0 0 0).cells _ rfl HA9.out Tryz.underlying50 rfl size_zone) rfl ⟨⟨(Zn.mk m 0 0 0 0 0 0 0 0 0 0 0 0), false, rfl, HFF.out⟩, HB9.out⟩
        · have hk4 : k = 4 := by omega
          subst hk4
          have HZ4 : Hid (zF s1 4 = some ([f0, f1, f2, f3], t)) := Lib.hid HZ.out
          obtain ⟨⟨b0, b0'⟩, ⟨b1, b1'⟩, ⟨b2, b2'⟩, ⟨b3, b3'⟩⟩ := HBN.out
          have c0 : wr.cell? ⟨F, 0, none⟩ = some (.int .i64 f0) := HF4.out.cell 0
          have c1 : wr.cell? ⟨F, 1, none⟩ = some (.int .i64 f1) := HF4.out.cell 1
          have c2 : wr.cell? ⟨F, 2, none⟩ = some (.int .i64 f2) := HF4.out.cell 2
          have c3 : wr.cell? ⟨F, 3, none⟩ = some (.int .i64 f3) := HF4.out.cell 3
          have d1 : wr.cell? ⟨B1, 1, none⟩ = some (.int .i64 0) := HZ1.out.cell 1
          have d2 : wr.cell? ⟨B1, 2, none⟩ = some (.int .i64 0) := HZ1.out.cell 2
          have d3 : wr.cell? ⟨B1, 3, none⟩ = some (.int .i64 0) := HZ1.out.cell 3
          have d4 : wr.cell? ⟨B1, 4, none⟩ = some (.int .i64 0) := HZ1.out.cell 4
          have e1 : wr.frozen? ⟨B1, 1, none⟩ = false := HZ1.out.free 1
          have e2 : wr.frozen? ⟨B1, 2, none⟩ = false := HZ1.out.free 2
          have e3 : wr.frozen? ⟨B1, 3, none⟩ = false := HZ1.out.free 3
          have e4 : wr.frozen? ⟨B1, 4, none⟩ = false := HZ1.out.free 4
          go_upto_region 24 with fail
          have HX1 : Hid (At ((((wr.setCell ⟨B1, 1, none⟩ (.int .i64 f0)).setCell ⟨B1, 2, none⟩ (.int .i64 (f0 + f1))).setCell ⟨B1, 3, none⟩ (.int .i64 f2)).setCell ⟨B1, 4, none⟩ (.int .i64 (f2 + f3))) B1 (zAt m f0 (f0 + f1) f2 (f2 + f3) (bs t) 0).cells 50) := Lib.hid ((((HZ1.out.set 1 _).set 2 _).set 3 _).set 4 _)
          have HX0 : Hid (At ((((wr.setCell ⟨B1, 1, none⟩ (.int .i64 f0)).setCell ⟨B1, 2, none⟩ (.int .i64 (f0 + f1))).setCell ⟨B1, 3, none⟩ (.int .i64 f2)).setCell ⟨B1, 4, none⟩ (.int .i64 (f2 + f3))) w.heap.size Zn.zero.cells 50) := Lib.hid ((((HZ0.out.other _ hne).other _ hne).other _ hne).other _ hne)
          have hB : w.heap.size ≤ B1 := by have := HLT.out; omega
          have HXB : Hid (Below w.heap.size w ((((wr.setCell ⟨B1, 1, none⟩ (.int .i64 f0)).setCell ⟨B1, 2, none⟩ (.int .i64 (f0 + f1))).setCell ⟨B1, 3, none⟩ (.int .i64 f2)).setCell ⟨B1, 4, none⟩ (.int .i64 (f2 + f3)))) := Lib.hid ((((HBW.out.setCell (p := ⟨B1, 1, none⟩) hB _).setCell (p := ⟨B1, 2, none⟩) hB _).setCell (p := ⟨B1, 3, none⟩) hB _).setCell (p := ⟨B1, 4, none⟩) hB _)
          generalize (((wr.setCell ⟨B1, 1, none⟩ (.int .i64 f0)).setCell ⟨B1, 2, none⟩ (.int .i64 (f0 + f1))).setCell ⟨B1, 3, none⟩ (.int .i64 f2)).setCell ⟨B1, 4, none⟩ (.int .i64 (f2 + f3)) = w7 at *
          clear c0 c1 c2 c3 d1 d2 d3 d4 e1 e2 e3 e4 b0 b0' b1 b1' b2 b2' b3 b3' HZ HF4 HZ1 HZ0 HBW hFw
          have hts : t.size ≤ 1000000 := HTS.out
          have HZG : Hid (zFin m (some ([f0, f1, f2, f3], t)) = if t.size = 32 then some (zAt m f0 (f0 + f1) f2 (f2 + f3) (bs t) 32) else none) := Lib.hid rfl
          generalize f0 + f1 = g1 at *
          generalize f2 + f3 = g3 at *
          by_cases h32 : t.size = 32
          · have HFF : Hid (zP s = some (zAt m f0 g1 f2 g3 (bs t) 32)) := Lib.hid (by rw [HF.out, HZ4.out, HZG.out, if_pos h32])
            have HTZ := Lib.hid h32
            have d5 : ((t.size : Int) != 32) = false := by rw [bne_eq_false_iff_eq]; omega
            go_upto_region 27 with fail
            rw [show ((4 : Nat) : Int) = 4 from rfl]
            go_loopw [82] (fun i wr => ∃ k : Nat, k ≤ 32 ∧ i = .int .i64 k ∧ Hid (At wr B1 (zAt m f0 g1 f2 g3 (bs t) k).cells 50) ∧ Hid (At wr w.heap.size Zn.zero.cells 50) ∧ Hid (Below w.heap.size w wr)) (fun i _ => 32 - (intOf i).toNat)
            case atStart => exact ⟨0, by decide, rfl, HX1, HX0, HXB⟩
            case round =>
              obtain ⟨k, hk, rfl, HY1, HY0, HYB⟩ := hrel
              by_cases hlt : k < 32
              · have hlt2 : (k : Int) < (t.size : Int) := by have := HTZ.out; omega
                have hlt3 : k < t.size := by have := HTZ.out; omega
                have hc := t[k].toNat_lt
                have HGD : Hid (((bs t).getD k 0) = t[k]) := Lib.hid (by rw [List.getD_eq_getElem?_getD, List.getElem?_eq_getElem (by rw [bs_length]; exact hlt3)]; rfl)
                obtain ⟨c, hcx⟩ : ∃ c, t[k] = c := ⟨_, rfl⟩
                rw [hcx] at hc HGD
                have HCG := Lib.hid (zAt_get m f0 g1 f2 g3 (bs t) k hlt)
                have HCS := Lib.hid (zAt_set m f0 g1 f2 g3 (bs t) k hlt)
                have HWS := Lib.hid (wn_step (bs t) k)
                have HWL := Lib.hid (wn_lt (bs t) k)
                have HWB := Lib.hid (wn_32 (bs t) (k + 1) (k / 4))
                obtain ⟨j, hj⟩ : ∃ j, k / 4 = j := ⟨_, rfl⟩
                rw [hj] at HCG HCS HWS HWL HWB
                rw [HGD.out] at HWS
                have h4 : IntKind.i64.wrap ((k : Int) / 4) = (j : Int) := by rw [IntKind.wrap_i64]; omega
                have hj8 : (j : Int) < 8 := by omega
                have hj0 : (0 : Int) ≤ (j : Int) := by omega
                have hsh : Op.shift BinOp.shl IntKind.u32 (IntKind.u32.wrap (c.toNat : Int)) IntKind.i64 (IntKind.i64.wrap ((k : Int).tmod 4 * 8)) = pure (.int .u32 ((c.toNat * 256 ^ (k % 4) : Nat) : Int)) := sh_byte k c
                have hor : binOp BinOp.or 47 (.int .u32 (wn (bs t) k j)) (.int .u32 ((c.toNat * 256 ^ (k % 4) : Nat) : Int)) = pure (.int .u32 (wn (bs t) (k + 1) j)) := by
                  rw [HWS.out]
                  exact or_byte _ _ _ HWL.out hc (by omega)
                obtain ⟨z, hz2⟩ : ∃ z, z = Value.int IntKind.u32 ((c.toNat * 256 ^ (k % 4) : Nat) : Int) := ⟨_, rfl⟩
                rw [← hz2] at hsh hor
                clear hz2
                have cz : wr.cell? ⟨B1, 5 + j, none⟩ = some (.int .u32 (wn (bs t) k j)) := by rw [HY1.out.cell]; exact HCG.out
                have fz : wr.frozen? ⟨B1, 5 + j, none⟩ = false := HY1.out.free _
                go_upto_region 29 with fail
                refine wp_region_still_tail 16 (by kernel_rfl) (by kernel_rfl) ?_
                simp only [List.take_succ_cons, List.take_zero, List.drop_succ_cons, List.drop_zero]
                still_step
                still_step
                still_step
                still_step
                still_step
                still_step
                still_step
                still_step
                still_step
                still_step
                still_step
                still_step
                still_step
                still_step
                still_step
                still_step
                refine wpStill_nil ?_
                change wpList _ _ _ _ _ wr.drew
                have HY1' : Hid (At ((wr.setCell ⟨B1, 5 + j, none⟩ (.int .u32 (wn (bs t) (k + 1) j))).drew) B1 (zAt m f0 g1 f2 g3 (bs t) (k + 1)).cells 50) := Lib.hid (by rw [← HCS.out]; exact (HY1.out.set (5 + j) _).drew)
                have HY0' : Hid (At ((wr.setCell ⟨B1, 5 + j, none⟩ (.int .u32 (wn (bs t) (k + 1) j))).drew) w.heap.size Zn.zero.cells 50) := Lib.hid ((HY0.out.other _ (by have := HLT.out; show w.heap.size ≠ B1; omega)).drew)
                have HYB' : Hid (Below w.heap.size w ((wr.setCell ⟨B1, 5 + j, none⟩ (.int .u32 (wn (bs t) (k + 1) j))).drew)) := Lib.hid (bN (HYB.out.setCell (p := ⟨B1, 5 + j, none⟩) (by have := HLT.out; show w.heap.size ≤ B1; omega) _) 1)
                go_wp2_with fail
                generalize (wr.setCell ⟨B1, 5 + j, none⟩ (.int .u32 (wn (bs t) (k + 1) j))).drew = w8 at *
                go_roundw
                case rel => exact ⟨k + 1, hlt, by go_num, HY1', HY0', HYB'⟩
                case measure => simp [intOf]; omega
              · have hk32 : k = 32 := by omega
                subst hk32
                have hno : ¬ ((32 : Nat) : Int) < (t.size : Int) := by have := HTZ.out; omega
                go_wp2_with (first | (refine wpList_load_row rfl 50 (.tmp 4) rfl B1 rfl 50 (zAt m f0 g1 f2 g3 (bs t) 32).cells (0, 0) _ HY1.out.out Tryz.underlying50 rfl size_zone ?_) | (refine wpList_store_at rfl 50 (.tmp 2) (.tmp 102) rfl w.heap.size (zAt m f0 g1 f2 g3 (bs t) 32).cells rfl rfl 50 Zn.zero.cells HY0.out size_zone rfl (zn_one _) ?_))
                intro w9 HW9
                have HA9 := Lib.hid (HY0.out.row (c' := (zAt m f0 g1 f2 g3 (bs t) 32).cells))
                rw [← HW9.out] at HA9
                have HB9 : Hid (Below w.heap.size w w9) := Lib.hid (by rw [HW9.out]; exact below_row HYB.out _ _ (Nat.le_refl _))
                go_wp2_with fail
                refine bodyPost_ret (results_row_tmp rfl _ _ w.heap.size 50 (zAt m f0 g1 f2 g3 (bs t) 32).cells _ rfl HA9.out Tryz.underlying50 rfl size_zone) rfl ⟨⟨(zAt m f0 g1 f2 g3 (bs t) 32), true, rfl, HFF.out⟩, HB9.out⟩
          · have HFF : Hid (zP s = none) := Lib.hid (by rw [HF.out, HZ4.out, HZG.out, if_neg h32])
            have d5 : ((t.size : Int) != 32) = true := by rw [bne_iff_ne]; omega
            clear h32
            go_wp2_with (first | (refine wpList_load_row rfl 50 (.tmp 4) rfl B1 rfl 50 (zAt m f0 g1 f2 g3 (bs t) 0).cells (0, 0) _ HX1.out.out Tryz.underlying50 rfl size_zone ?_) | (refine wpList_store_at rfl 50 (.tmp 2) (.tmp 79) rfl w.heap.size (zAt m f0 g1 f2 g3 (bs t) 0).cells rfl rfl 50 Zn.zero.cells HX0.out size_zone rfl (zn_one _) ?_))
            intro w9 HW9
            have HA9 := Lib.hid (HX0.out.row (c' := (zAt m f0 g1 f2 g3 (bs t) 0).cells))
            rw [← HW9.out] at HA9
            have HB9 : Hid (Below w.heap.size w w9) := Lib.hid (by rw [HW9.out]; exact below_row HXB.out _ _ (Nat.le_refl _))
            go_wp2_with fail
            refine bodyPost_ret (results_row_tmp rfl _ _ w.heap.size 50 (zAt m f0 g1 f2 g3 (bs t) 0).cells _ rfl HA9.out Tryz.underlying50 rfl size_zone) rfl ⟨⟨(zAt m f0 g1 f2 g3 (bs t) 0), false, rfl, HFF.out⟩, HB9.out⟩
  · have d1 : (er != 0) = true := bne_iff_ne.2 her
    have HF : Hid (zP s = none) := Lib.hid (by rw [HZP.out, if_pos her])
    clear her hr0 HZP
    go_wp2_with (first | (refine wpList_load_row rfl 50 (.tmp 4) rfl B1 rfl 50 Zn.zero.cells (0, 0) _ HA1'.out.out Tryz.underlying50 rfl size_zone ?_) | (refine wpList_store_at rfl 50 (.tmp 2) (.tmp 19) rfl w.heap.size Zn.zero.cells rfl rfl 50 Zn.zero.cells HA0'.out size_zone rfl (zn_one _) ?_))
    intro w9 HW9
    have HA9 := Lib.hid (HA0'.out.row (c' := Zn.zero.cells))
    rw [← HW9.out] at HA9
    have HB9 : Hid (Below w.heap.size w w9) := Lib.hid (by rw [HW9.out]; exact below_row HB1.out _ _ (Nat.le_refl _))
    go_wp2_with fail
    refine bodyPost_ret (results_row_tmp rfl _ _ w.heap.size 50 Zn.zero.cells _ rfl HA9.out Tryz.underlying50 rfl size_zone) rfl ⟨⟨Zn.zero, false, rfl, HF.out⟩, HB9.out⟩
end Go.Proofs.YtoojpfcnekpboaaGreat
