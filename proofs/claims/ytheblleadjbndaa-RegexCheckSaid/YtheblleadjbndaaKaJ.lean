/- The reference's walks: Prefix, its walk. The walk of isEmpty and Empty. The walk of isEmpty, node by node, and Empty. The walk of RegexCheck. RegexCheck's walk, as the row asks for it. The walks of RegexMatch, RegexFind and RegexCheck. -/
import Derived.Test.YtheblleadjbndaaKaI
import Derived.Test.YtheblleadjbndaaKaF
import Derived.Test.YtheblleadjbndaaKaC
namespace Go.Proofs.Ytheblleadjbndaa
open Go.RowKit Rx
set_option maxRecDepth 100000 in
set_option maxHeartbeats 4000000 in
theorem rprefix_any (p : ByteArray) (W : World) : Calls Try.prog 22 #[.string p] W fun e w' => e = .returned (.tuple #[.string ⟨(prefR (bs p)).1.toArray⟩, .bool (prefR (bs p)).2]) ∧ Below W.heap.size W w' := by
  obtain ⟨i0, hi, hz0, hz1, hz2⟩ := info_parts info_u8
  have HI := Lib.hid hi
  have HZ0 := Lib.hid hz0
  have HZ1 := Lib.hid hz1
  have HZ2 := Lib.hid hz2
  clear hi hz0 hz1 hz2
  have HP := Lib.hid (rparse_any p W)
  go_enter Try.func22, Try.ntmps22
  go_wp2_with fail
  refine (HP.out).mono ?_
  rintro e w1 ⟨hb, x, hnv, rfl, hres⟩
  have HB := Lib.hid hb
  have HNV := Lib.hid hnv
  have HW1 : Hid (At (w1.alloc (.cells Try.zeroCells46 46)) w1.heap.size (nodeC 0 noF false nilS) 46) := Lib.hid (by rw [zero_node]; exact At.new w1 _ _)
  clear hb hnv HP
  by_cases h0 : checkR (bs p) = 0
  · rw [h0]
    obtain ⟨a, ha⟩ := checkR_zero.1 h0
    have HRES := Lib.hid (hres a ha)
    have HA := Lib.hid ha
    clear h0 ha hres
    go_wp2_with (refine wpList_store_at rfl 46 (.tmp 4) (.tmp 13) rfl w1.heap.size x rfl rfl 46 _ HW1.out HNV.out.info (by rw [nodeC_size, HNV.out.size]) HNV.out.one ?_)
    intro w2 hw2
    have hts := tree_stored HB.out HRES.out hw2.out
    have hat := hts.2.1
    have HBL := Lib.hid hts.2.2
    have hrn := hts.1
    clear hw2 HW1 HRES
    unfold RnU at hrn
    obtain ⟨sv, xs, rfl, hrow, hra⟩ := hrn
    have d0 : w2.cell? ⟨w1.heap.size, 258, none⟩ = some sv := by rw [hat.cell, nodeC_args]
    rcases a with s | ⟨s, a'⟩
    · unfold RnA at hra
      obtain ⟨y, sv2, ys, rfl, rfl, hrow2, hrs⟩ := hra
      rcases rrow_shape hrow with ⟨_, hx⟩ | ⟨g, gc, rfl, hgc⟩
      · cases hx
      have hal : Below w2.heap.size w2 (w2.alloc (.cells #[] 5)) := (Below.refl _ _).alloc (Nat.le_refl _) _
      have d0a : (w2.alloc (.cells #[] 5)).cell? ⟨w1.heap.size, 258, none⟩ = some (.slice (some ⟨g, 0, none⟩) 1 gc) := by rw [(hat.below hal).cell, nodeC_args]; rfl
      have hc1 := part_cells (wr := w2.alloc (.cells #[] 5)) (i := 0) hrow (fun k hk => hal.block k hk) rfl 258 sv2 (by rw [Array.getElem?_toList]; exact nodeC_args _ _ _ _)
      rw [show 0 * 259 + 258 = 258 from rfl] at hc1
      obtain ⟨qa, qc, rfl, hqg⟩ : ∃ qa qc, sv2 = .slice qa ys.length qc ∧ (ys.length = 0 ∨ ∃ g, qa = some ⟨g, 0, none⟩ ∧ ys.length ≤ qc) := by
        rcases rrow_shape hrow2 with ⟨rfl, h0⟩ | ⟨g, cap, rfl, h3⟩
        · exact ⟨none, 0, by rw [h0]; rfl, .inl (by rw [h0]; rfl)⟩
        · exact ⟨some ⟨g, 0, none⟩, cap, rfl, .inr ⟨g, rfl, h3⟩⟩
      have HROW2 := Lib.hid hrow2
      have HRS := Lib.hid hrs
      have HQG := Lib.hid hqg
      have hlen : ys.length ≤ 400 := by
        have hz := parse_sz HA.out
        simp only [szA] at hz
        obtain ⟨l, h1, _, _, h4⟩ := ecS s ys (by omega) hrs
        rw [← h1, List.length_map]; omega
      have HYL := Lib.hid hlen
      have hyi : (ys.length : Int) ≤ 400 := by omega
      have HPR : Hid (prefR (bs p) = pre s) := Lib.hid (by unfold prefR; rw [HA.out])
      have HQ0 := Lib.hid (QIn.lit w2)
      clear hat hts hrow hrow2 hrs hqg hlen hal
      simp only [List.length_singleton] at hgc ⊢
      go_wp2_with fail
      go_loopg [6, 8, 9] (ys.length + 1) (fun k ov iv kv wr => ∃ (j : Nat) (s' : Ss) (l : List UInt8), k = ys.length + 1 - j ∧ j ≤ ys.length ∧ iv = .int .i64 j ∧ RnS (fun k => k < w2.heap.size) w2 s' (ys.drop j) ∧ pre s = (l ++ (pre s').1, (pre s').2) ∧ l.length = j ∧ QIn w2 ov l wr)
      case atStart => exact ⟨0, s, [], rfl, Nat.zero_le _, rfl, HRS.out, rfl, rfl, HQ0.out⟩
      case round =>
        obtain ⟨j, s', l, hk, hj, rfl, hrs, hpre, hll, hq⟩ := hrel
        obtain ⟨oa, on, oc, rfl⟩ := owns_slice hq.row
        have HQ := Lib.hid hq
        have hjl : (j : Int) ≤ 400 := by omega
        clear d0 d0a hc1
        by_cases hlt : j < ys.length
        · have hlti : (j : Int) < (ys.length : Int) := by omega
          obtain ⟨g2, rfl, hq2⟩ : ∃ g, qa = some ⟨g, 0, none⟩ ∧ ys.length ≤ qc := by
            rcases HQG.out with h | h
            · omega
            · exact h
          have hdr := List.drop_eq_getElem_cons hlt
          rw [hdr] at hrs
          rcases s' with _ | ⟨u, s'⟩
          · unfold RnS at hrs; cases hrs
          unfold RnS at hrs
          obtain ⟨y, rest, hyr, hru, hrs'⟩ := hrs
          injection hyr with hy1 hy2
          subst hy2
          have hyj : ys[j]? = some y := by rw [List.getElem?_eq_getElem hlt, hy1]
          have hpc := part_cells (wr := wr) HROW2.out (fun k hk => hq.below.block k hk) hyj
          have HPC := Lib.hid hpc
          have HMO : Hid (ys.length + 1 - (j + 1) < gk) := Lib.hid (by omega)
          have HJ := Lib.hid hlt
          have HLL := Lib.hid hll
          have HRS' := Lib.hid hrs'
          have HPRE := Lib.hid hpre
          cases hib : isByte u
          · have c1 := hpc 257 _ (single_cell hru hib)
            have HRE : Hid (prefR (bs p) = (l, false)) := Lib.hid (by rw [HPR.out, hpre, pre_other hib]; simp)
            have kc2 : (convert 55 9 (.slice oa on oc)).run Try.prog wr = .ok (.string ⟨l.toArray⟩) wr := hq.str 0
            have HBF : Hid (Below W.heap.size W wr) := Lib.hid (HBL.out.trans (hq.below.mono HBL.out.size))
            clear hk hj hlt hdr hru hrs' hy1 hyj hpc hib hpre hll hq
            go_wp2_with fail
            go_ret2
            exact ⟨by rw [HRE.out]; rfl, HBF.out⟩
          · obtain ⟨c, rfl⟩ : ∃ c, u = .byte c := by
              cases u with
              | byte c => exact ⟨c, rfl⟩
              | _ => simp [isByte] at hib
            unfold RnU at hru
            subst hru
            have HBC := Lib.hid (byte_cells (c := c)).2
            have HYJ := Lib.hid hyj
            have c1 := hpc 257 _ byte_cells.1
            have HPR2 : Hid (pre s = ((l ++ [c]) ++ (pre s').1, (pre s').2)) := Lib.hid (by rw [hpre]; simp [pre])
            have HCB : Hid (c.toNat < 256) := Lib.hid c.toNat_lt
            have HL4 : Hid (l.length ≤ 400) := Lib.hid (by omega)
            have HQL := Lib.hid (show QIn w2 (.slice oa on oc) (l ++ if c.toNat < 0 then [c] else []) wr from by simpa using hq)
            clear hk hj hlt hdr hrs' hy1 hyj hpc hib hpre hll hq HPRE
            go_wp2_with fail
            go_loopg [6, 9] 257 (fun k ov kv wr => ∃ m : Nat, k = 257 - m ∧ m ≤ 256 ∧ kv = .int .i64 m ∧ QIn w2 ov (l ++ if c.toNat < m then [c] else []) wr)
            case atStart => exact ⟨0, rfl, by omega, rfl, HQL.out⟩
            case round =>
              obtain ⟨m, hk, hm, rfl, hq⟩ := hrel
              obtain ⟨ta, tn, tc, rfl⟩ := owns_slice hq.row
              have HQ3 := Lib.hid hq
              by_cases hlt : m < 256
              · have hmi : (m : Int) < 256 := by omega
                have HMM : Hid (257 - (m + 1) < gk) := Lib.hid (by omega)
                have HM := Lib.hid hlt
                have hpc := part_cells (wr := wr) HROW2.out (fun k hk => hq.below.block k hk) HYJ.out
                have c2 := hpc (1 + m) _ (HBC.out m hlt)
                have c2' := c2
                rw [← Nat.add_assoc] at c2'
                by_cases hmc : m = c.toNat
                · have hd : decide (m = c.toNat) = true := decide_eq_true hmc
                  rw [hd] at c2 c2'
                  have HMC := Lib.hid hmc
                  have hif : (l ++ if c.toNat < m then [c] else []) = l := by rw [if_neg (by omega)]; simp
                  rw [hif] at HQ3
                  have HNX : Hid ((l ++ if c.toNat < m + 1 then [c] else []) = l ++ [c]) := Lib.hid (by rw [if_pos (by omega)])
                  have hwr : u8V c = .int .u8 m := by rw [hmc]; rfl
                  clear hk hm hlt hpc hd hif hq hmc
                  go_wp2_with (at_builtin; (refine wpList_append_where _ rfl (.tmp 54) (.tmp 57) 55 rfl 5 i0 _ 1 1 Try.underlying55 HI.out HZ0.out HZ1.out HZ2.out rfl (by decide) (.slice ta tn tc) l.length (l.map u8V) rfl (HQ3.out.row.alloc _) ⟨wr.heap.size, 0, none⟩ 1 1 [.int .u8 m] rfl (by decide) rfl (World.news_of_block (cs := #[.int .u8 m]) (t := 5) (fr := (0, 0)) (heap_alloc_new _ _)) (by rw [← hwr]; exact one_u8 c) (len_u8 (Nat.le_trans HL4.out (by decide))) (bytes_u8 (Nat.le_trans HL4.out (by decide))) ?_))
                  intro v' w4 hown hgrow hwhere
                  rw [← hwr] at hown
                  have HA4 := Lib.hid (HQ3.out.app hown hgrow hwhere)
                  obtain ⟨xa, xn, xc, rfl⟩ := owns_slice hown
                  clear hown hgrow hwhere hwr
                  go_wp2_with fail
                  go_roundg (257 - (m + 1))
                  case measure => exact HMM.out
                  case rel => exact ⟨m + 1, rfl, HM.out, rfl, by rw [HNX.out]; exact HA4.out⟩
                · have hd : decide (m = c.toNat) = false := decide_eq_false hmc
                  rw [hd] at c2 c2'
                  have HNX : Hid ((l ++ if c.toNat < m + 1 then [c] else []) = (l ++ if c.toNat < m then [c] else [])) := Lib.hid (by
                    congr 1
                    by_cases h : c.toNat < m
                    · rw [if_pos h, if_pos (by omega)]
                    · rw [if_neg h, if_neg (by omega)])
                  clear hk hm hlt hpc hd hq hmc
                  go_wp2_with fail
                  go_roundg (257 - (m + 1))
                  case measure => exact HMM.out
                  case rel => exact ⟨m + 1, rfl, HM.out, rfl, by rw [HNX.out]; exact HQ3.out⟩
              · obtain rfl : m = 256 := by omega
                have hif : (l ++ if c.toNat < 256 then [c] else []) = l ++ [c] := by rw [if_pos HCB.out]
                rw [hif] at HQ3
                clear hk hm hlt hif hq
                go_wp2_with fail
                go_roundg (ys.length + 1 - (j + 1))
                case measure => exact HMO.out
                case rel => exact ⟨j + 1, s', l ++ [c], rfl, HJ.out, rfl, HRS'.out, HPR2.out, by rw [List.length_append, HLL.out]; rfl, HQ3.out⟩
        · have hys : ys.drop j = [] := List.drop_eq_nil_of_le (by omega)
          rw [hys] at hrs
          rcases s' with _ | ⟨u, s'⟩
          · have HRE : Hid (prefR (bs p) = (l, true)) := Lib.hid (by rw [HPR.out, hpre]; simp [pre])
            have kc2 : (convert 55 9 (.slice oa on oc)).run Try.prog wr = .ok (.string ⟨l.toArray⟩) wr := hq.str 0
            have HBF : Hid (Below W.heap.size W wr) := Lib.hid (HBL.out.trans (hq.below.mono HBL.out.size))
            have hlti : ¬ (j : Int) < (ys.length : Int) := by omega
            clear hk hj hlt hrs hys hpre hll hq
            go_wp2_with fail
            go_ret2
            exact ⟨by rw [HRE.out]; rfl, HBF.out⟩
          · unfold RnS at hrs
            obtain ⟨_, _, h, _⟩ := hrs
            cases h
    · have hn2 : 2 ≤ xs.length := by
        unfold RnA at hra
        obtain ⟨x, zs, _, _, rfl, _, _, _, h5⟩ := hra
        have : 1 ≤ zs.length := by
          cases a' with
          | one s => unfold RnA at h5; obtain ⟨_, _, _, rfl, _⟩ := h5; simp
          | more s a => unfold RnA at h5; obtain ⟨_, _, _, _, rfl, _⟩ := h5; simp
        simp only [List.length_cons]; omega
      rcases rrow_shape hrow with ⟨_, hx⟩ | ⟨g, gc, rfl, hgc⟩
      · rw [hx] at hn2; simp at hn2
      have HRE : Hid (prefR (bs p) = ([], false)) := Lib.hid (by unfold prefR; rw [HA.out])
      generalize xs.length = n at *
      have hni : ((n : Int) != 1) = true := by rw [bne_iff_ne]; omega
      clear hat hts hrow hra hn2 hgc
      go_wp2_with fail
      go_ret2
      exact ⟨by rw [HRE.out]; rfl, HBL.out⟩
  · have HRE : Hid (prefR (bs p) = ([], false)) := Lib.hid (by
      have hn : parse (bs p) = none := by
        rcases h : parse (bs p) with _ | a
        · rfl
        · exact absurd (checkR_zero.2 ⟨a, h⟩) h0
      unfold prefR; rw [hn])
    have hp2 : ((checkR (bs p) : Int) != 0) = true := by rw [bne_iff_ne]; omega
    generalize checkR (bs p) = n at *
    clear h0 hres
    go_wp2_with (refine wpList_store_at rfl 46 (.tmp 4) (.tmp 13) rfl w1.heap.size x rfl rfl 46 _ HW1.out HNV.out.info (by rw [nodeC_size, HNV.out.size]) HNV.out.one ?_)
    intro w2 hw2
    have HBL := Lib.hid (stored_below HB.out hw2.out)
    clear hw2 HW1
    go_wp2_with fail
    go_ret2
    exact ⟨by rw [HRE.out]; rfl, HBL.out⟩
end Go.Proofs.Ytheblleadjbndaa

namespace Go.Proofs.Ytheblleadjbndaa
open Go.RowKit Rx

/-- An index that is there if b is true. -/
def SomeIx (b : Bool) (w : World) (e : Ending) (w' : World) : Prop := ∃ r : Int, e = .returned (.int .i64 r) ∧ decide (0 ≤ r) = b ∧ w = w'
theorem any_range_succ (p : Nat → Bool) (j : Nat) : (List.range (j + 1)).any p = ((List.range j).any p || p j) := by rw [List.range_succ, List.any_append]; simp
theorem any_range_yes (p : Nat → Bool) (j n : Nat) (h : j < n) (hp : p j = true) : (List.range n).any p = true := by
  rw [List.any_eq_true]; exact ⟨j, List.mem_range.2 h, hp⟩

set_option maxRecDepth 100000 in
set_option maxHeartbeats 1000000 in
theorem index_bools (f : UInt8 → Bool) (k : Nat) (W : World) (n : Nat) (hn0 : n = 256) (hk : At W k (btab f 256) 102) : Calls Try.prog 56 #[.slice (some ⟨k, 0, none⟩) n n, .bool true] W (SomeIx (all256.any f) W) := by
  have hall : all256.any f = (List.range 256).any fun i => f (UInt8.ofNat i) := by unfold all256; rw [List.any_map]; rfl
  rw [hall]
  have HK := Lib.hid hk
  have HN0 := Lib.hid hn0
  have hnl : (n : Int) ≤ 256 := by omega
  clear hk hall hn0
  obtain ⟨p, hp⟩ : ∃ p : Nat → Bool, (fun i => f (UInt8.ofNat i)) = p := ⟨_, rfl⟩
  have hpc : ∀ j, j < 256 → W.cell? ⟨k, j, none⟩ = some (.bool (p j)) := fun j hj => by
    rw [HK.out.cell, btab_get f 256 j hj, if_pos hj, ← hp]
  rw [hp]
  have HC := Lib.hid hpc
  obtain ⟨R, hR⟩ : ∃ R, (List.range 256).any p = R := ⟨_, rfl⟩
  have HY0 : Hid (∀ j, j < 256 → p j = true → R = true) := Lib.hid (fun j h h2 => by rw [← hR]; exact any_range_yes p j 256 h h2)
  have HE0 : Hid (∀ j, j = 256 → (List.range j).any p = R) := Lib.hid (fun j h => by rw [h]; exact hR)
  rw [hR]
  clear hp hpc HK hR
  go_enter Try.func56, Try.ntmps56
  go_wp2_with fail
  go_loopg [8] n (fun g i wr => ∃ j : Nat, W = wr ∧ g = n - j ∧ j ≤ n ∧ i = .int .i64 j ∧ (List.range j).any p = false)
  case atStart => exact ⟨0, rfl, rfl, Nat.zero_le _, rfl, rfl⟩
  case round =>
    obtain ⟨j, rfl, hg, hj, rfl, hn⟩ := hrel
    have hjl : (j : Int) ≤ 256 := by omega
    by_cases hlt : j < n
    · have hlti : (j : Int) < (n : Int) := by omega
      have hc := HC.out j (by have := HN0.out; omega)
      have hmo : n - (j + 1) < gk := by omega
      have HMO := Lib.hid hmo
      have hsucc := any_range_succ p j
      rw [hn, Bool.false_or] at hsucc
      have HS := Lib.hid hsucc
      have HY := Lib.hid (HY0.out j (by have := HN0.out; omega))
      clear hmo hg hn hsucc
      generalize p j = b at *
      cases b
      · go_wp2_with fail
        go_roundg (n - (j + 1))
        case measure => exact HMO.out
        case rel => exact ⟨j + 1, rfl, rfl, by omega, rfl, HS.out⟩
      · go_wp2_with fail
        go_ret
        exact ⟨j, rfl, by rw [HY.out trivial]; exact decide_eq_true (by omega), rfl⟩
    · have HJ : Hid (j = 256) := Lib.hid (by have := HN0.out; omega)
      have HN := Lib.hid hn
      have hlti : ¬ (j : Int) < (n : Int) := by omega
      clear hn hg
      go_wp2_with fail
      go_ret
      exact ⟨-1, rfl, by rw [← HE0.out j HJ.out, HN.out]; rfl, rfl⟩

set_option maxHeartbeats 1000000 in
theorem contains_bools (f : UInt8 → Bool) (k : Nat) (W : World) (hk : At W k (btab f 256) 102) : Calls Try.prog 46 #[.slice (some ⟨k, 0, none⟩) 256 256, .bool true] W fun e w' => e = .returned (.bool (all256.any f)) ∧ W = w' := by
  have HI := Lib.hid (index_bools f k W 256 rfl hk)
  clear hk
  generalize all256.any f = b at *
  go_enter Try.func46, Try.ntmps46
  go_wp2_with fail
  refine (HI.out).mono ?_
  rintro e w' ⟨r, rfl, hr, rfl⟩
  have HR := Lib.hid hr
  clear hr
  go_wp2_with fail
  go_ret
  exact ⟨by first | rfl | exact ret_bool HR.out | (rw [← HR.out]; rfl), rfl⟩

/-! ### Trees -/
/-- isEmpty answers g at a tree. -/
def EmC (W : World) (x : Value) (g : Bool) : Prop := Calls Try.prog 36 #[x] W fun e w' => e = .returned (.bool g) ∧ W = w'
/-- A closure's answer. -/
def EmN (W : World) (x : Value) (g : Bool) : Prop := Calls Try.prog 48 #[x] W fun e w' => e = .returned (.bool g) ∧ W = w'
set_option maxHeartbeats 1000000 in
theorem EmC.not {W : World} {x : Value} {g : Bool} (h : EmC W x g) : EmN W x (!g) := by
  have H : Hid (Calls Try.prog 36 #[x] W fun e w' => e = .returned (.bool g) ∧ W = w') := Lib.hid h
  clear h
  show Calls Try.prog 48 #[x] W fun e w' => e = .returned (.bool (!g)) ∧ W = w'
  go_enter Try.func48, Try.ntmps48
  go_wp2_with fail
  refine (H.out).mono ?_
  rintro e w' ⟨rfl, rfl⟩
  go_wp2_with fail
  go_ret
  exact ⟨rfl, rfl⟩
/-- A row of trees. -/
structure TRow (W : World) (sv : Value) (xs : List Value) : Prop where mk :: (out : W.ownsRow 0 37 1 sv xs.length xs)

set_option maxHeartbeats 2000000 in
theorem indexFunc_em (W : World) (sv : Value) (xs : List Value) (gs : List Bool) (hrow : TRow W sv xs) (hlen : xs.length ≤ 100000) (hg : xs.length = gs.length) (hc : ∀ (j : Nat) x g, xs[j]? = some x → gs[j]? = some g → EmC W x g) (hp : ∀ x ∈ xs, ∃ b, x = ptr b) :
    Calls Try.prog 57 #[sv, .func (.func 36) #[] #[]] W (SomeIx (gs.any id) W) := by
  obtain ⟨sa, sn, sc, rfl⟩ := owns_slice hrow.out
  obtain rfl : sn = xs.length := by
    rcases hrow.out.2 with ⟨e, h0⟩ | ⟨g, cap, cur, e, _⟩
    · injection e with _ e _; omega
    · injection e with _ e _
  have HR := Lib.hid hrow
  have HL := Lib.hid hlen
  have HG := Lib.hid hg
  have HC := Lib.hid hc
  have HP := Lib.hid hp
  clear hrow hlen hg hc hp
  go_enter Try.func57, Try.ntmps57
  go_wp2_with fail
  go_loopg [8] xs.length (fun g i wr => ∃ j : Nat, W = wr ∧ g = xs.length - j ∧ j ≤ xs.length ∧ i = .int .i64 j ∧ (gs.take j).any id = false)
  case atStart => exact ⟨0, rfl, rfl, Nat.zero_le _, rfl, rfl⟩
  case round =>
    obtain ⟨j, rfl, hg, hj, rfl, hn⟩ := hrel
    have hjl : (j : Int) ≤ 100000 := by have := HL.out; omega
    have HN := Lib.hid hn
    clear hn
    by_cases hlt : j < xs.length
    · have hlti : (j : Int) < (xs.length : Int) := by omega
      have hglt : j < gs.length := by rw [← HG.out]; exact hlt
      have hxj := List.getElem?_eq_getElem hlt
      have hgj := List.getElem?_eq_getElem hglt
      obtain ⟨b, hb⟩ := HP.out _ (List.getElem_mem hlt)
      rw [hb] at hxj
      obtain ⟨r, hr⟩ : ∃ r, gs[j] = r := ⟨_, rfl⟩
      rw [hr] at hgj
      have hcall : Calls Try.prog 36 #[ptr b] W fun e w' => e = .returned (.bool r) ∧ W = w' := HC.out j _ _ hxj hgj
      have hsa : ∃ g, sa = some ⟨g, 0, none⟩ ∧ xs.length ≤ sc := by
        rcases HR.out.out.2 with ⟨e, h0⟩ | ⟨g, cap, cur, e, _, _, h3, _⟩
        · omega
        · injection e with e1 _ e3; exact ⟨g, e1, by omega⟩
      obtain ⟨g, rfl, hsc⟩ := hsa
      have d1 : W.cell? ⟨g, j, none⟩ = some (ptr b) := owns_cell HR.out.out rfl hxj
      have hmo : xs.length - (j + 1) < gk := by omega
      have HMO := Lib.hid hmo
      have HS : Hid ((gs.take (j + 1)).any id = r) := Lib.hid (by
        rw [List.take_succ_eq_append_getElem hglt, List.any_append, HN.out, hr]; simp)
      have HY : Hid (r = true → gs.any id = true) := Lib.hid (fun h => by
        rw [List.any_eq_true]; exact ⟨_, List.getElem_mem hglt, by rw [hr]; exact h⟩)
      have HCALL := Lib.hid hcall
      clear hmo hg hcall hxj hgj hb hr hsc
      unfold ptr at *
      go_wp2_with fail
      refine (HCALL.out).mono ?_
      rintro e w' ⟨rfl, rfl⟩
      cases r
      · go_wp2_with fail
        go_roundg (xs.length - (j + 1))
        case measure => exact HMO.out
        case rel => exact ⟨j + 1, rfl, rfl, by omega, rfl, HS.out⟩
      · go_wp2_with fail
        go_ret
        exact ⟨j, rfl, by rw [HY.out trivial]; exact decide_eq_true (by omega), rfl⟩
    · have HJ : Hid (gs.any id = false) := Lib.hid (by
        have h := HN.out
        rwa [List.take_of_length_le (by have := HG.out; omega)] at h)
      have hlti : ¬ (j : Int) < (xs.length : Int) := by omega
      clear hg HN
      go_wp2_with fail
      go_ret
      exact ⟨-1, rfl, by rw [HJ.out]; rfl, rfl⟩

set_option maxHeartbeats 1000000 in
theorem containsFunc_em (W : World) (sv : Value) (xs : List Value) (gs : List Bool) (hrow : TRow W sv xs) (hlen : xs.length ≤ 100000) (hg : xs.length = gs.length) (hc : ∀ (j : Nat) x g, xs[j]? = some x → gs[j]? = some g → EmC W x g) (hp : ∀ x ∈ xs, ∃ b, x = ptr b) :
    Calls Try.prog 47 #[sv, .func (.func 36) #[] #[]] W fun e w' => e = .returned (.bool (gs.any id)) ∧ W = w' := by
  have HI := Lib.hid (indexFunc_em W sv xs gs hrow hlen hg hc hp)
  obtain ⟨sa, sn, sc, rfl⟩ := owns_slice hrow.out
  clear hrow hlen hg hc hp
  generalize gs.any id = b at *
  go_enter Try.func47, Try.ntmps47
  go_wp2_with fail
  refine (HI.out).mono ?_
  rintro e w' ⟨r, rfl, hr, rfl⟩
  have HR := Lib.hid hr
  clear hr
  go_wp2_with fail
  go_ret
  exact ⟨by first | rfl | exact ret_bool HR.out | (rw [← HR.out]; rfl), rfl⟩

set_option maxHeartbeats 2000000 in
theorem indexFunc_ne (W : World) (sv : Value) (xs : List Value) (gs : List Bool) (hrow : TRow W sv xs) (hlen : xs.length ≤ 100000) (hg : xs.length = gs.length) (hc : ∀ (j : Nat) x g, xs[j]? = some x → gs[j]? = some g → EmN W x g) (hp : ∀ x ∈ xs, ∃ b, x = ptr b) :
    Calls Try.prog 57 #[sv, .func (.func 48) #[] #[]] W (SomeIx (gs.any id) W) := by
  obtain ⟨sa, sn, sc, rfl⟩ := owns_slice hrow.out
  obtain rfl : sn = xs.length := by
    rcases hrow.out.2 with ⟨e, h0⟩ | ⟨g, cap, cur, e, _⟩
    · injection e with _ e _; omega
    · injection e with _ e _
  have HR := Lib.hid hrow
  have HL := Lib.hid hlen
  have HG := Lib.hid hg
  have HC := Lib.hid hc
  have HP := Lib.hid hp
  clear hrow hlen hg hc hp
  go_enter Try.func57, Try.ntmps57
  go_wp2_with fail
  go_loopg [8] xs.length (fun g i wr => ∃ j : Nat, W = wr ∧ g = xs.length - j ∧ j ≤ xs.length ∧ i = .int .i64 j ∧ (gs.take j).any id = false)
  case atStart => exact ⟨0, rfl, rfl, Nat.zero_le _, rfl, rfl⟩
  case round =>
    obtain ⟨j, rfl, hg, hj, rfl, hn⟩ := hrel
    have hjl : (j : Int) ≤ 100000 := by have := HL.out; omega
    have HN := Lib.hid hn
    clear hn
    by_cases hlt : j < xs.length
    · have hlti : (j : Int) < (xs.length : Int) := by omega
      have hglt : j < gs.length := by rw [← HG.out]; exact hlt
      have hxj := List.getElem?_eq_getElem hlt
      have hgj := List.getElem?_eq_getElem hglt
      obtain ⟨b, hb⟩ := HP.out _ (List.getElem_mem hlt)
      rw [hb] at hxj
      obtain ⟨r, hr⟩ : ∃ r, gs[j] = r := ⟨_, rfl⟩
      rw [hr] at hgj
      have hcall : Calls Try.prog 48 #[ptr b] W fun e w' => e = .returned (.bool r) ∧ W = w' := HC.out j _ _ hxj hgj
      have hsa : ∃ g, sa = some ⟨g, 0, none⟩ ∧ xs.length ≤ sc := by
        rcases HR.out.out.2 with ⟨e, h0⟩ | ⟨g, cap, cur, e, _, _, h3, _⟩
        · omega
        · injection e with e1 _ e3; exact ⟨g, e1, by omega⟩
      obtain ⟨g, rfl, hsc⟩ := hsa
      have d1 : W.cell? ⟨g, j, none⟩ = some (ptr b) := owns_cell HR.out.out rfl hxj
      have hmo : xs.length - (j + 1) < gk := by omega
      have HMO := Lib.hid hmo
      have HS : Hid ((gs.take (j + 1)).any id = r) := Lib.hid (by
        rw [List.take_succ_eq_append_getElem hglt, List.any_append, HN.out, hr]; simp)
      have HY : Hid (r = true → gs.any id = true) := Lib.hid (fun h => by
        rw [List.any_eq_true]; exact ⟨_, List.getElem_mem hglt, by rw [hr]; exact h⟩)
      have HCALL := Lib.hid hcall
      clear hmo hg hcall hxj hgj hb hr hsc
      unfold ptr at *
      go_wp2_with fail
      refine (HCALL.out).mono ?_
      rintro e w' ⟨rfl, rfl⟩
      cases r
      · go_wp2_with fail
        go_roundg (xs.length - (j + 1))
        case measure => exact HMO.out
        case rel => exact ⟨j + 1, rfl, rfl, by omega, rfl, HS.out⟩
      · go_wp2_with fail
        go_ret
        exact ⟨j, rfl, by rw [HY.out trivial]; exact decide_eq_true (by omega), rfl⟩
    · have HJ : Hid (gs.any id = false) := Lib.hid (by
        have h := HN.out
        rwa [List.take_of_length_le (by have := HG.out; omega)] at h)
      have hlti : ¬ (j : Int) < (xs.length : Int) := by omega
      clear hg HN
      go_wp2_with fail
      go_ret
      exact ⟨-1, rfl, by rw [HJ.out]; rfl, rfl⟩

set_option maxHeartbeats 1000000 in
theorem containsFunc_ne (W : World) (sv : Value) (xs : List Value) (gs : List Bool) (hrow : TRow W sv xs) (hlen : xs.length ≤ 100000) (hg : xs.length = gs.length) (hc : ∀ (j : Nat) x g, xs[j]? = some x → gs[j]? = some g → EmN W x g) (hp : ∀ x ∈ xs, ∃ b, x = ptr b) :
    Calls Try.prog 47 #[sv, .func (.func 48) #[] #[]] W fun e w' => e = .returned (.bool (gs.any id)) ∧ W = w' := by
  have HI := Lib.hid (indexFunc_ne W sv xs gs hrow hlen hg hc hp)
  obtain ⟨sa, sn, sc, rfl⟩ := owns_slice hrow.out
  clear hrow hlen hg hc hp
  generalize gs.any id = b at *
  go_enter Try.func47, Try.ntmps47
  go_wp2_with fail
  refine (HI.out).mono ?_
  rintro e w' ⟨r, rfl, hr, rfl⟩
  have HR := Lib.hid hr
  clear hr
  go_wp2_with fail
  go_ret
  exact ⟨by first | rfl | exact ret_bool HR.out | (rw [← HR.out]; rfl), rfl⟩
end Go.Proofs.Ytheblleadjbndaa

namespace Go.Proofs.Ytheblleadjbndaa
open Go.RowKit Rx

set_option maxHeartbeats 1000000 in
theorem em_byte (W : World) (b : Nat) (c : Int) (h : At W b (nd 0 true c (.pointer none) (.slice none 0 0)) 54) : EmC W (ptr b) false := by
  have c0 : W.cell? ⟨b, 0, none⟩ = some (.int .i64 0) := h.cell 0
  have c1 : W.cell? ⟨b, 1, none⟩ = some (.bool true) := h.cell 1
  clear h
  unfold EmC ptr
  go_enter Try.func36, Try.ntmps36
  go_wp2_with fail
  go_ret
  exact ⟨rfl, rfl⟩
set_option maxHeartbeats 1000000 in
theorem em_cls (W : World) (b k : Nat) (f : UInt8 → Bool) (h : At W b (nd 0 false 0 (ptr k) (.slice none 0 0)) 54) (hk : At W k (btab f 256) 102) : EmC W (ptr b) (!all256.any f) := by
  have c0 : W.cell? ⟨b, 0, none⟩ = some (.int .i64 0) := h.cell 0
  have c1 : W.cell? ⟨b, 1, none⟩ = some (.bool false) := h.cell 1
  have c3 : W.cell? ⟨b, 3, none⟩ = some (.pointer (some ⟨k, 0, none⟩)) := h.cell 3
  have HK := Lib.hid (contains_bools f k W hk)
  clear h hk
  generalize all256.any f = r at *
  unfold EmC ptr
  go_enter Try.func36, Try.ntmps36
  go_wp2_with fail
  refine (HK.out).mono ?_
  rintro e w' ⟨rfl, rfl⟩
  go_wp2_with fail
  go_ret
  exact ⟨rfl, rfl⟩
set_option maxHeartbeats 1000000 in
theorem em_seq (W : World) (b : Nat) (sv : Value) (xs : List Value) (gs : List Bool) (h : At W b (nd 1 false 0 (.pointer none) sv) 54) (hrow : TRow W sv xs) (hlen : xs.length ≤ 100000) (hg : xs.length = gs.length) (hc : ∀ (j : Nat) x g, xs[j]? = some x → gs[j]? = some g → EmC W x g) (hp : ∀ x ∈ xs, ∃ b, x = ptr b) : EmC W (ptr b) (gs.any id) := by
  have c0 : W.cell? ⟨b, 0, none⟩ = some (.int .i64 1) := h.cell 0
  have c4 : W.cell? ⟨b, 4, none⟩ = some sv := h.cell 4
  have HK := Lib.hid (containsFunc_em W sv xs gs hrow hlen hg hc hp)
  obtain ⟨sa, sn, sc, rfl⟩ := owns_slice hrow.out
  clear h hrow hlen hg hc hp
  generalize gs.any id = r at *
  unfold EmC ptr
  go_enter Try.func36, Try.ntmps36
  go_wp2_with fail
  refine (HK.out).mono ?_
  rintro e w' ⟨rfl, rfl⟩
  go_wp2_with fail
  go_ret
  exact ⟨rfl, rfl⟩
set_option maxHeartbeats 1000000 in
theorem em_alt (W : World) (b : Nat) (sv : Value) (xs : List Value) (gs : List Bool) (h : At W b (nd 2 false 0 (.pointer none) sv) 54) (hrow : TRow W sv xs) (hlen : xs.length ≤ 100000) (hg : xs.length = gs.length) (hc : ∀ (j : Nat) x g, xs[j]? = some x → gs[j]? = some g → EmN W x g) (hp : ∀ x ∈ xs, ∃ b, x = ptr b) : EmC W (ptr b) (!gs.any id) := by
  have c0 : W.cell? ⟨b, 0, none⟩ = some (.int .i64 2) := h.cell 0
  have c4 : W.cell? ⟨b, 4, none⟩ = some sv := h.cell 4
  have HK := Lib.hid (containsFunc_ne W sv xs gs hrow hlen hg hc hp)
  obtain ⟨sa, sn, sc, rfl⟩ := owns_slice hrow.out
  clear h hrow hlen hg hc hp
  generalize gs.any id = r at *
  unfold EmC ptr
  go_enter Try.func36, Try.ntmps36
  go_wp2_with fail
  refine (HK.out).mono ?_
  rintro e w' ⟨rfl, rfl⟩
  go_wp2_with fail
  go_ret
  exact ⟨rfl, rfl⟩
set_option maxHeartbeats 1000000 in
theorem em_star (W : World) (b : Nat) (sv : Value) (h : At W b (nd 3 false 0 (.pointer none) sv) 54) : EmC W (ptr b) false := by
  have c0 : W.cell? ⟨b, 0, none⟩ = some (.int .i64 3) := h.cell 0
  clear h
  unfold EmC ptr
  go_enter Try.func36, Try.ntmps36
  go_wp2_with fail
  go_ret
  exact ⟨rfl, rfl⟩
set_option maxHeartbeats 1000000 in
theorem em_opt (W : World) (b : Nat) (sv : Value) (h : At W b (nd 5 false 0 (.pointer none) sv) 54) : EmC W (ptr b) false := by
  have c0 : W.cell? ⟨b, 0, none⟩ = some (.int .i64 5) := h.cell 0
  clear h
  unfold EmC ptr
  go_enter Try.func36, Try.ntmps36
  go_wp2_with fail
  go_ret
  exact ⟨rfl, rfl⟩
set_option maxHeartbeats 1000000 in
theorem em_plus (W : World) (b : Nat) (sv x : Value) (r : Bool) (h : At W b (nd 4 false 0 (.pointer none) sv) 54) (hrow : TRow W sv [x]) (hx : EmC W x r) (hp : ∃ b, x = ptr b) : EmC W (ptr b) r := by
  have c0 : W.cell? ⟨b, 0, none⟩ = some (.int .i64 4) := h.cell 0
  have c4 : W.cell? ⟨b, 4, none⟩ = some sv := h.cell 4
  obtain ⟨g, cap, rfl, h1, d1⟩ : ∃ g cap, sv = .slice (some ⟨g, 0, none⟩) 1 cap ∧ 1 ≤ cap ∧ W.cell? ⟨g, 0, none⟩ = some x := by
    rcases hrow.out.2 with ⟨e, h0⟩ | ⟨g, cap, cur, e, _, _, h3, _⟩
    · simp at h0
    · exact ⟨g, cap, e, by simpa using h3, owns_cell (j := 0) hrow.out (by rw [e]; rfl) rfl⟩
  obtain ⟨xb, rfl⟩ := hp
  have HX : Hid (Calls Try.prog 36 #[ptr xb] W fun e w' => e = .returned (.bool r) ∧ W = w') := Lib.hid hx
  clear h hrow hx h1
  unfold ptr at *
  unfold EmC
  go_enter Try.func36, Try.ntmps36
  go_wp2_with fail
  refine (HX.out).mono ?_
  rintro e w' ⟨rfl, rfl⟩
  go_wp2_with fail
  go_ret
  exact ⟨rfl, rfl⟩

/-- Answers along a row. -/
structure EmL (W : World) (xs : List Value) (gs : List Bool) : Prop where
  len : xs.length = gs.length
  at_ : ∀ (j : Nat) x g, xs[j]? = some x → gs[j]? = some g → EmC W x g
  ptr : ∀ x ∈ xs, ∃ b, x = Go.Proofs.Ytheblleadjbndaa.ptr b
theorem EmL.nil (W : World) : EmL W [] [] := ⟨rfl, fun j x g h => (by simp at h), fun x h => (by simp at h)⟩
theorem EmL.cons {W : World} {x : Value} {g : Bool} {xs : List Value} {gs : List Bool} (h : EmC W x g) (hp : ∃ b, x = Go.Proofs.Ytheblleadjbndaa.ptr b) (hs : EmL W xs gs) : EmL W (x :: xs) (g :: gs) := by
  refine ⟨by simp [hs.len], fun j y r hy hr => ?_, fun y hy => ?_⟩
  · rcases j with _ | j
    · simp at hy hr
      obtain rfl := hy
      obtain rfl := hr
      exact h
    · exact hs.at_ j y r (by simpa using hy) (by simpa using hr)
  · rcases List.mem_cons.1 hy with rfl | hy
    · exact hp
    · exact hs.ptr y hy
theorem EmL.notN {W : World} {xs : List Value} {gs : List Bool} (h : EmL W xs gs) (j : Nat) (x : Value) (g : Bool) (hx : xs[j]? = some x) (hg : (gs.map (!·))[j]? = some g) : EmN W x g := by
  rw [List.getElem?_map, Option.map_eq_some_iff] at hg
  obtain ⟨r, hr, rfl⟩ := hg
  exact (h.at_ j x r hx hr).not
theorem any_not (gs : List Bool) : (!(gs.map (!·)).any id) = gs.all id := by
  induction gs with
  | nil => rfl
  | cons g gs ih => cases g <;> simp_all
mutual
theorem isEmpty_U {S : Nat → Prop} {W : World} : ∀ (u : U) (v : Value), szU u ≤ 1000 → IsU S W u v → EmC W v (emU u)
  | .byte c, v, _, h => by
    unfold IsU at h
    obtain ⟨b, _, rfl, h1⟩ := h
    exact em_byte W b _ h1
  | .cls f, v, _, h => by
    unfold IsU at h
    obtain ⟨b, k, _, _, rfl, h1, h2⟩ := h
    exact em_cls W b k f h1 h2
  | .grp a, v, hz, h => by
    unfold IsU at h
    exact isEmpty_A a v (by simp only [szU] at hz; omega) h
  | .star u, v, _, h => by
    unfold IsU at h
    obtain ⟨b, sv, xs, _, rfl, h1, _⟩ := h
    exact em_star W b sv h1
  | .opt u, v, _, h => by
    unfold IsU at h
    obtain ⟨b, sv, xs, _, rfl, h1, _⟩ := h
    exact em_opt W b sv h1
  | .plus u, v, hz, h => by
    unfold IsU at h
    obtain ⟨b, sv, xs, _, rfl, h1, h2, x, rfl, h3⟩ := h
    exact em_plus W b sv x _ h1 ⟨h2.1⟩ (isEmpty_U u x (by simp only [szU] at hz; omega) h3) (IsU.ptr u x h3)
theorem isEmpty_A {S : Nat → Prop} {W : World} : ∀ (a : As) (v : Value), szA a ≤ 1000 → IsA S W a v → EmC W v (emA a)
  | .one s, v, hz, h => by
    unfold IsA at h
    obtain ⟨b, sv, xs, _, rfl, h1, h2, h3⟩ := h
    obtain ⟨gs, h4, h5⟩ := isEmpty_S s xs (by simp only [szA] at hz; omega) h3
    have hl := IsSl.len s xs h3
    have hl2 := szSs_le s
    simp only [szA] at hz
    have := em_seq W b sv xs gs h1 ⟨h2.1⟩ (by omega) h4.len h4.at_ h4.ptr
    rw [h5] at this
    exact this
  | .more s a, v, hz, h => by
    unfold IsA at h
    obtain ⟨b, sv, xs, _, rfl, h1, h2, x, ys, rfl, h3, h4⟩ := h
    simp only [szA] at hz
    obtain ⟨xb, xsv, zs, _, rfl, h5, h6, h7⟩ := h3
    obtain ⟨gs, h8, h9⟩ := isEmpty_S s zs (by omega) h7
    have hl := IsSl.len s zs h7
    have hl2 := szSs_le s
    have hx := em_seq W xb xsv zs gs h5 ⟨h6.1⟩ (by omega) h8.len h8.at_ h8.ptr
    rw [h9] at hx
    obtain ⟨hs, h10, h11, h12⟩ := isEmpty_L a ys (by omega) h4
    have hall := EmL.cons hx ⟨xb, rfl⟩ h10
    have := em_alt W b sv _ _ h1 ⟨h2.1⟩ (by simp; omega) (by rw [List.length_map]; exact hall.len) hall.notN hall.ptr
    rw [any_not] at this
    simp only [List.all_cons, h11, id] at this
    unfold emA
    exact this
theorem isEmpty_L {S : Nat → Prop} {W : World} : ∀ (a : As) (xs : List Value), szA a ≤ 1000 → IsAl S W a xs → ∃ gs, EmL W xs gs ∧ gs.all id = emA a ∧ xs.length ≤ szA a + 1
  | .one s, xs, hz, h => by
    unfold IsAl at h
    simp only [szA] at hz
    obtain ⟨x, rfl, xb, xsv, zs, _, rfl, h5, h6, h7⟩ := h
    obtain ⟨gs, h8, h9⟩ := isEmpty_S s zs (by omega) h7
    have hl := IsSl.len s zs h7
    have hl2 := szSs_le s
    have hx := em_seq W xb xsv zs gs h5 ⟨h6.1⟩ (by omega) h8.len h8.at_ h8.ptr
    rw [h9] at hx
    exact ⟨[emS s], EmL.cons hx ⟨xb, rfl⟩ (EmL.nil W), by simp [emA], by simp⟩
  | .more s a, xs, hz, h => by
    unfold IsAl at h
    simp only [szA] at hz
    obtain ⟨x, ys, rfl, ⟨xb, xsv, zs, _, rfl, h5, h6, h7⟩, h4⟩ := h
    obtain ⟨gs, h8, h9⟩ := isEmpty_S s zs (by omega) h7
    have hl := IsSl.len s zs h7
    have hl2 := szSs_le s
    have hx := em_seq W xb xsv zs gs h5 ⟨h6.1⟩ (by omega) h8.len h8.at_ h8.ptr
    rw [h9] at hx
    obtain ⟨hs, h10, h11, h12⟩ := isEmpty_L a ys (by omega) h4
    exact ⟨emS s :: hs, EmL.cons hx ⟨xb, rfl⟩ h10, by simp [emA, h11], by simp only [List.length_cons, szA]; omega⟩
theorem isEmpty_S {S : Nat → Prop} {W : World} : ∀ (s : Ss) (xs : List Value), szS s ≤ 1000 → IsSl S W s xs → ∃ gs, EmL W xs gs ∧ gs.any id = emS s
  | .nil, xs, _, h => by
    unfold IsSl at h
    subst h
    exact ⟨[], EmL.nil W, by simp [emS]⟩
  | .cons u s, xs, hz, h => by
    unfold IsSl at h
    simp only [szS] at hz
    obtain ⟨x, ys, rfl, h1, h2⟩ := h
    have hx := isEmpty_U u x (by omega) h1
    obtain ⟨gs, h3, h4⟩ := isEmpty_S s ys (by omega) h2
    exact ⟨emU u :: gs, EmL.cons hx (IsU.ptr u x h1) h3, by simp [emS, h4]⟩
end

set_option maxHeartbeats 1000000 in
theorem empty_any (p : ByteArray) (W : World) : Calls Try.prog 26 #[.string p] W fun e w' => e = .returned (.bool (emptyR (bs p))) ∧ Below W.heap.size W w' := by
  have HP := Lib.hid (parse_any p W)
  go_enter Try.func26, Try.ntmps26
  go_wp2_with fail
  refine (HP.out).mono ?_
  rintro e w1 ⟨hb, hp⟩
  have HB := Lib.hid hb
  clear hb HP
  rcases ha : parse (bs p) with _ | a
  · rw [ha] at hp
    simp only at hp
    obtain rfl := hp
    have HE2 : Hid (emptyR (bs p) = false) := Lib.hid (by unfold emptyR; rw [ha])
    clear ha
    go_wp2_with fail
    go_ret
    exact ⟨ret_bool HE2.out.symm, HB.out⟩
  · rw [ha] at hp
    simp only at hp
    obtain ⟨v, rfl, hv⟩ := hp
    have HE2 : Hid (emptyR (bs p) = emA a) := Lib.hid (empty_of ha)
    have hsz := parse_sz ha
    have hem := isEmpty_A a v (by omega) hv
    obtain ⟨vb, rfl⟩ := IsA.ptr a v hv
    have HM : Hid (Calls Try.prog 36 #[ptr vb] w1 fun e w' => e = .returned (.bool (emA a)) ∧ w1 = w') := Lib.hid hem
    clear ha hv hsz hem
    unfold ptr at *
    go_wp2_with fail
    refine (HM.out).mono ?_
    rintro e w2 ⟨rfl, rfl⟩
    go_wp2_with fail
    go_ret
    exact ⟨ret_bool HE2.out.symm, HB.out⟩
end Go.Proofs.Ytheblleadjbndaa

namespace Go.Proofs.Ytheblleadjbndaa
open Go.RowKit Rx
set_option maxRecDepth 100000 in
set_option maxHeartbeats 4000000 in
theorem check_walk (p : ByteArray) (W : World) : Calls Try.prog 10 #[.string p] W fun e w' => e = .returned (.bool true) ∧ Below W.heap.size W w' := by
  have HAW := Lib.hid awake_any
  obtain ⟨u, hu⟩ : ∃ u : ByteArray, (⟨(prefR (bs p)).1.toArray⟩ : ByteArray) = u := ⟨_, rfl⟩
  obtain ⟨al, hal⟩ : ∃ b, (prefR (bs p)).2 = b := ⟨_, rfl⟩
  obtain ⟨n, hn⟩ : ∃ n, checkR (bs p) = n := ⟨_, rfl⟩
  obtain ⟨q, hq⟩ : ∃ q : ByteArray, (⟨(quoteR (bs p)).toArray⟩ : ByteArray) = q := ⟨_, rfl⟩
  obtain ⟨em, hem⟩ : ∃ b, emptyR (bs p) = b := ⟨_, rfl⟩
  have HPX : Hid (∀ W, Calls Try.prog 20 #[.string p] W fun e w' => e = .returned (.tuple #[.string u, .bool al]) ∧ Below W.heap.size W w') := Lib.hid (fun W => by have := prefix_any p W; rwa [hu, hal] at this)
  have HRX : Hid (∀ W, Calls Try.prog 22 #[.string p] W fun e w' => e = .returned (.tuple #[.string u, .bool al]) ∧ Below W.heap.size W w') := Lib.hid (fun W => by have := rprefix_any p W; rwa [hu, hal] at this)
  have HCK : Hid (∀ W, Calls Try.prog 19 #[.string p] W fun e w' => e = .returned (.int .i64 (n : Nat)) ∧ Below W.heap.size W w') := Lib.hid (fun W => by have := check_any p W; rwa [hn] at this)
  have HRC : Hid (∀ W, Calls Try.prog 23 #[.string p] W fun e w' => e = .returned (.int .i64 (n : Nat)) ∧ Below W.heap.size W w') := Lib.hid (fun W => by have := rcheck_any p W; rwa [hn] at this)
  have HQU : Hid (∀ W, p.size ≤ 1000 → Calls Try.prog 24 #[.string p] W fun e w' => e = .returned (.string q) ∧ Below W.heap.size W w') := Lib.hid (fun W h => by have := quote_any p W h; rwa [hq] at this)
  have HRQ : Hid (∀ W, p.size ≤ 1000 → Calls Try.prog 25 #[.string p] W fun e w' => e = .returned (.string q) ∧ Below W.heap.size W w') := Lib.hid (fun W h => by have := rquote_any p W h; rwa [hq] at this)
  have HEM : Hid (∀ W, Calls Try.prog 26 #[.string p] W fun e w' => e = .returned (.bool em) ∧ Below W.heap.size W w') := Lib.hid (fun W => by have := empty_any p W; rwa [hem] at this)
  have HRE : Hid (∀ W, Calls Try.prog 27 #[.string p] W fun e w' => e = .returned (.bool em) ∧ Below W.heap.size W w') := Lib.hid (fun W => by have := rempty_any p W; rwa [hem] at this)
  clear hu hal hn hq hem
  have hgr := great_any ⟨#[]⟩ W.heap.size [p] (W.alloc (.cells #[.string p] 9)) (by simp) (fun j x hx => by
    rcases j with _ | j
    · simp at hx; subst hx; exact (At.new W #[.string p] 9).cell 0
    · simp at hx)
  have HGR := Lib.hid hgr
  clear hgr
  go_enter Try.func10, Try.ntmps10
  go_wp2_with fail
  refine (HGR.out).mono ?_
  rintro e w1 ⟨rfl, rfl⟩
  have HB : Hid (Below W.heap.size W (W.alloc (.cells #[.string p] 9))) := Lib.hid ((Below.refl _ _).alloc (Nat.le_refl _) _)
  generalize W.alloc (.cells #[.string p] 9) = w1 at *
  cases hg : greatR ⟨#[]⟩ [p]
  · obtain ⟨_, hs⟩ := great_small hg
    have HS : Hid (p.size ≤ 1000) := Lib.hid (by have := hs p (by simp); omega)
    clear hg HGR hs
    go_wp2_with fail
    refine ((HPX.out _)).mono ?_
    rintro e w' ⟨rfl, hb⟩
    replace HB := Lib.hid (HB.out.trans (hb.mono HB.out.size))
    clear hb
    go_wp2_with fail
    refine ((HRX.out _)).mono ?_
    rintro e w' ⟨rfl, hb⟩
    replace HB := Lib.hid (HB.out.trans (hb.mono HB.out.size))
    clear hb
    go_wp2_with fail
    refine ((HCK.out _)).mono ?_
    rintro e w' ⟨rfl, hb⟩
    replace HB := Lib.hid (HB.out.trans (hb.mono HB.out.size))
    clear hb
    go_wp2_with fail
    refine ((HRC.out _)).mono ?_
    rintro e w' ⟨rfl, hb⟩
    replace HB := Lib.hid (HB.out.trans (hb.mono HB.out.size))
    clear hb
    go_wp2_with fail
    refine ((HQU.out _ HS.out)).mono ?_
    rintro e w' ⟨rfl, hb⟩
    replace HB := Lib.hid (HB.out.trans (hb.mono HB.out.size))
    clear hb
    go_wp2_with fail
    refine ((HRQ.out _ HS.out)).mono ?_
    rintro e w' ⟨rfl, hb⟩
    replace HB := Lib.hid (HB.out.trans (hb.mono HB.out.size))
    clear hb
    go_wp2_with fail
    refine ((HEM.out _)).mono ?_
    rintro e w' ⟨rfl, hb⟩
    replace HB := Lib.hid (HB.out.trans (hb.mono HB.out.size))
    clear hb
    go_wp2_with fail
    refine ((HRE.out _)).mono ?_
    rintro e w' ⟨rfl, hb⟩
    replace HB := Lib.hid (HB.out.trans (hb.mono HB.out.size))
    clear hb
    go_wp2_with fail
    refine ((HAW.out _)).mono ?_
    rintro e w' ⟨rfl, hb⟩
    replace HB := Lib.hid (HB.out.trans (hb.mono HB.out.size))
    clear hb
    go_wp2_with fail
    go_ret
    exact ⟨rfl, HB.out⟩
  · clear hg HGR
    go_wp2_with fail
    refine ((HAW.out _)).mono ?_
    rintro e w' ⟨rfl, hb⟩
    replace HB := Lib.hid (HB.out.trans (hb.mono HB.out.size))
    clear hb
    go_wp2_with fail
    go_ret
    exact ⟨rfl, HB.out⟩
end Go.Proofs.Ytheblleadjbndaa

namespace Go.Proofs.Ytheblleadjbndaa
open Go.RowKit in
theorem wkCheck (p : ByteArray) (W : World) (_ : p.size ≤ 140737488351232) : Calls Try.prog 10 #[.string p] W fun e w' => e = .returned (.bool true) ∧ Below W.heap.size W w' := check_walk p W
end Go.Proofs.Ytheblleadjbndaa

