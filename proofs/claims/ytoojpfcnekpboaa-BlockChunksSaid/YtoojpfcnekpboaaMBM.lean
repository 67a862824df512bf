/- Walks: equal blocks are the same (the reference's). Walks: the directory (the reference's). -/
import Derived.Test.YtoojpfcnekpboaaMBL
import Derived.Deep.RegionHeld3
import Derived.Test.YtoojpfcnekpboaaMAT
namespace Go.Proofs.Ytoojpfcnekpboaa
open Go.RowKit Go.Shelf

set_option maxRecDepth 100000 in
set_option maxHeartbeats 2000000 in
theorem same_eq (b : Blk) (A A' : Option Addr) (c c' : Nat) (w : World) (hl : ChksIn w.heap.size w A b.chunks) (hc : b.chunks.length ≤ c) (hl' : ChksIn w.heap.size w A' b.chunks) (hc' : b.chunks.length ≤ c') (hn : ∀ x ∈ b.chunks, x.labs.length ≤ 9223372036854775807) (hf : b.chunks.length ≤ 4001) :
    Calls Try.prog 15 #[.agg (blC b A c), .agg (blC b A' c')] w fun e w' => e = .returned (.bool true) ∧ Below w.heap.size w w' := by
  have HX := Lib.hid ((At.new w (blC b A c) 24).alloc (.cells (blC b A' c') 24))
  have hY := At.new (w.alloc (.cells (blC b A c) 24)) (blC b A' c') 24
  have z1 : (w.alloc (.cells (blC b A c) 24)).heap.size = w.heap.size + 1 := by simp
  rw [z1] at hY
  have HY := Lib.hid hY
  have HB : Hid (Below w.heap.size w ((w.alloc (.cells (blC b A c) 24)).alloc (.cells (blC b A' c') 24))) := Lib.hid (((Below.refl _ _).alloc (Nat.le_refl _) _).alloc (by simp) _)
  have HL := Lib.hid (And.intro hl hl')
  have HC := Lib.hid (And.intro hc hc')
  have HNN := Lib.hid hn
  have hfi : (b.chunks.length : Int) ≤ 4001 := by omega
  clear hY z1 hl hl' hc hc' hn
  go_enter Try.func15, Try.ntmps15
  go_upto_region 1 with fail
  generalize (w.alloc (.cells (blC b A c) 24)).alloc (.cells (blC b A' c') 24) = w0 at *
  have x0 : w0.cell? ⟨w.heap.size, 0, none⟩ = some (.int .i64 b.id) := HX.out.cell 0
  have x1 : w0.cell? ⟨w.heap.size, 1, none⟩ = some (.int .i64 b.width) := HX.out.cell 1
  have x2 : w0.cell? ⟨w.heap.size, 2, none⟩ = some (.int .i64 b.fr) := HX.out.cell 2
  have x3 : w0.cell? ⟨w.heap.size, 3, none⟩ = some (.slice A b.chunks.length c) := HX.out.cell 3
  have y0 : w0.cell? ⟨w.heap.size + 1, 0, none⟩ = some (.int .i64 b.id) := HY.out.cell 0
  have y1 : w0.cell? ⟨w.heap.size + 1, 1, none⟩ = some (.int .i64 b.width) := HY.out.cell 1
  have y2 : w0.cell? ⟨w.heap.size + 1, 2, none⟩ = some (.int .i64 b.fr) := HY.out.cell 2
  have y3 : w0.cell? ⟨w.heap.size + 1, 3, none⟩ = some (.slice A' b.chunks.length c') := HY.out.cell 3
  go_wp2_with fail
  clear x0 x1 x2 x3 y0 y1 y2 y3
  go_loopw [5] (fun i wr => ∃ k : Nat, k ≤ b.chunks.length ∧ i = .int .i64 k ∧ Hid (Below w0.heap.size w0 wr)) (fun i _ => b.chunks.length - (intOf i).toNat)
  case atStart => exact ⟨0, Nat.zero_le _, rfl, Lib.hid (Below.refl _ _)⟩
  case round =>
    obtain ⟨k, hk, rfl, HD⟩ := hrel
    have x3 : wr.cell? ⟨w.heap.size, 3, none⟩ = some (.slice A b.chunks.length c) := (HX.out.below HD.out).cell 3
    have y3 : wr.cell? ⟨w.heap.size + 1, 3, none⟩ = some (.slice A' b.chunks.length c') := (HY.out.below HD.out).cell 3
    have HBW := Lib.hid (HB.out.trans (HD.out.mono HB.out.size))
    have hkm : (k : Int) ≤ 4001 := by omega
    by_cases hlt : k < b.chunks.length
    · have hki : (k : Int) < (b.chunks.length : Int) := by omega
      obtain ⟨g, o, A1, c1, rfl, hg, hrg, hlb, hcl⟩ := (HL.out.1.below HBW.out).at_ k hlt
      obtain ⟨g', o', A2, c2, rfl, hg', hrg', hlb', hcl'⟩ := (HL.out.2.below HBW.out).at_ k hlt
      have hxn := HNN.out _ (List.getElem_mem hlt)
      have HSC := Lib.hid (fun (W : World) (h : Below w.heap.size wr W) (hz : w.heap.size ≤ W.heap.size) => sameChunk_eq (b.chunks[k]) A1 A2 c1 c2 W ((hlb.below h).mono hz) hcl ((hlb'.below h).mono hz) hcl' hxn)
      have HR1 := Lib.hid hrg
      have HR2 := Lib.hid hrg'
      obtain ⟨x, hx⟩ : ∃ x, b.chunks[k] = x := ⟨_, rfl⟩
      rw [hx] at HSC HR1 HR2
      obtain ⟨U, hU⟩ : ∃ U, U = chC x.sig A1 x.labs.length c1 x.zone x.data := ⟨_, rfl⟩
      obtain ⟨V, hV⟩ : ∃ V, V = chC x.sig A2 x.labs.length c2 x.zone x.data := ⟨_, rfl⟩
      rw [← hU] at HR1
      rw [← hV] at HR2
      rw [← hU, ← hV] at HSC
      have hus : U.toList.length = 16 := by rw [hU]; rfl
      have hvs : V.toList.length = 16 := by rw [hV]; rfl
      have hz0 : w.heap.size ≤ wr.heap.size := HBW.out.size
      clear hU hV hx hg hg' hrg hrg' hlb hlb' hcl hcl' hxn
      go_upto_region 6 with fail
      refine wp_region_still_tail 10 (by kernel_rfl) (by kernel_rfl) ?_
      simp only [List.take_succ_cons, List.take_zero, List.drop_succ_cons, List.drop_zero]
      still_step
      still_step
      still_step
      still_step
      refine wpStill_load_midG rfl 49 (.tmp 44) rfl g (o + k * 16) rfl U.toList _ HR1.out Try.underlying49 rfl (by rw [hus]; exact size_chunk) ?_
      still_step
      still_step
      still_step
      still_step
      refine wpStill_load_midG rfl 49 (.tmp 49) rfl g' (o' + k * 16) rfl V.toList _ HR2.out Try.underlying49 rfl (by rw [hvs]; exact size_chunk) ?_
      refine wpStill_nil ?_
      change wpList _ _ _ _ _ wr.drew
      have HBD : Hid (Below w.heap.size wr wr.drew) := Lib.hid (bN (Below.refl _ _) 1)
      have HDD : Hid (Below w0.heap.size w0 wr.drew) := Lib.hid (bN HD.out 1)
      have HSD := Lib.hid (HSC.out wr.drew HBD.out hz0)
      clear x3 y3 HR1 HR2
      generalize wr.drew = w3 at *
      go_wp2_with fail
      refine HSD.out.mono ?_
      rintro e w4 ⟨rfl, hb⟩
      have HD4 := Lib.hid (HDD.out.trans (hb.mono HDD.out.size))
      clear hb
      go_wp2_with fail
      go_roundw
      case rel => exact ⟨k + 1, hlt, by go_num, HD4⟩
      case measure => simp [intOf]; omega
    · have hki : ¬ (k : Int) < (b.chunks.length : Int) := by omega
      go_wp2_with fail
      go_ret
      exact ⟨rfl, HBW.out⟩
end Go.Proofs.Ytoojpfcnekpboaa

namespace Go.Proofs.Ytoojpfcnekpboaa
open Go.RowKit

/-- An item that can be written. -/
structure ItmOK (x : Itm) : Prop where mk ::
  sig : 0 ≤ x.sig ∧ x.sig ≤ 1152921504606846976
  off : 0 ≤ x.off ∧ x.off ≤ 1152921504606846976
  size : 0 ≤ x.size ∧ x.size ≤ 1152921504606846976
  zone : zchk x.zone = 0 ∧ ZW x.zone
  labs : x.labs.length ≤ 17
  lab : ∀ y ∈ x.labs, y.name.size ≤ 61 ∧ y.value.size ≤ 201
theorem ItmOK.fmt {x : Itm} (h : ItmOK x) : (fmtL x.labs).length ≤ 8100 := fmtL_len2 _ h.labs h.lab
theorem ItmOK.len {x : Itm} (h : ItmOK x) : (itB x).length ≤ 8300 := itB_len x h.fmt
theorem putS_any (s : ByteArray) (l : List UInt8) (n : Int) (k : Nat) (w : World) (hs : s = str l) (hn : n = (k : Int)) (hl : l.length ≤ 1000000000) (hk : k ≤ 1152921504606846976) :
    Calls Try.prog 47 #[.string s, .int .i64 n] w fun e w' => e = .returned (.string (str (l ++ vE k))) ∧ Below w.heap.size w w' := by
  subst hs hn
  refine (put_any (str l) k w hl (by omega) (by omega)).mono ?_
  rintro e w' ⟨rfl, hb⟩
  exact ⟨by rw [str_append]; rfl, hb⟩
def dirTo (id width fr : Int) (l : List Itm) (k : Nat) : List UInt8 := headB id width fr l.length ++ (l.take k).flatMap itB
theorem dirTo_step {id width fr : Int} {l : List Itm} {k : Nat} (h : k < l.length) : dirTo id width fr l (k + 1) = dirTo id width fr l k ++ vE (l[k]).sig.toNat ++ vE (fmtL (l[k]).labs).length ++ fmtL (l[k]).labs ++ vE (zE (l[k]).zone).length ++ zE (l[k]).zone ++ vE (l[k]).off.toNat ++ vE (l[k]).size.toNat := by
  unfold dirTo
  rw [List.take_succ_eq_append_getElem h, List.flatMap_append]
  simp only [List.flatMap_cons, List.flatMap_nil, List.append_nil, itB, List.append_assoc]
theorem dirTo_end (id width fr : Int) (l : List Itm) : dirTo id width fr l l.length = dirB id width fr l := by
  unfold dirTo dirB
  rw [List.take_length]
theorem dirTo_len {id width fr : Int} {l : List Itm} (h : ∀ x ∈ l, ItmOK x) (hl : l.length ≤ 100000) (k : Nat) : (dirTo id width fr l k).length ≤ 900000000 := by
  have h1 := headB_len id width fr l.length
  have h2 := itms_len (l.take k) (fun x hx => (h x (List.mem_of_mem_take hx)).len)
  have h3 : (l.take k).length ≤ l.length := by rw [List.length_take]; omega
  unfold dirTo
  rw [List.length_append]
  omega

set_option maxRecDepth 100000 in
set_option maxHeartbeats 8000000 in
theorem directoryR_any (id width fr : Int) (A : Option Addr) (c : Nat) (l : List Itm) (w : World) (hl : ItmsIn w.heap.size w A l) (hc : l.length ≤ c) (hok : ∀ x ∈ l, ItmOK x) (hn : l.length ≤ 100000)
    (hid : 0 ≤ id ∧ id ≤ 1152921504606846976) (hwi : 0 ≤ width ∧ width ≤ 1152921504606846976) (hfr : 0 ≤ fr ∧ fr ≤ 1152921504606846976) :
    Calls Try.prog 27 #[.int .i64 id, .int .i64 width, .int .i64 fr, .slice A l.length c] w fun e w' => e = .returned (.string (str (dirB id width fr l))) ∧ Below w.heap.size w w' := by
  have HL := Lib.hid hl
  have HC := Lib.hid hc
  have HOK := Lib.hid hok
  have HLEN : Hid (∀ k, (dirTo id width fr l k).length ≤ 900000000) := Lib.hid (dirTo_len hok hn)
  have HID := Lib.hid hid
  have HWI := Lib.hid hwi
  have HFR := Lib.hid hfr
  have HH : Hid ((((([76, 75, 66, 49] : List UInt8) ++ vE id.toNat) ++ vE width.toNat) ++ vE fr.toNat) ++ vE l.length = dirTo id width fr l 0) := Lib.hid (by unfold dirTo headB magicB; simp)
  have hv1 := vE_len id.toNat
  have hv2 := vE_len width.toNat
  have hv3 := vE_len fr.toNat
  have HV1 := Lib.hid hv1
  have HV2 := Lib.hid hv2
  have HV3 := Lib.hid hv3
  clear hl hc hok hid hwi hfr hv1 hv2 hv3
  go_enter Try.func27, Try.ntmps27
  obtain ⟨m1, hm1⟩ : ∃ m, m = [76, 75, 66, 49] ++ vE id.toNat := ⟨_, rfl⟩
  obtain ⟨m2, hm2⟩ : ∃ m, m = m1 ++ vE width.toNat := ⟨_, rfl⟩
  obtain ⟨m3, hm3⟩ : ∃ m, m = m2 ++ vE fr.toNat := ⟨_, rfl⟩
  have HM1 : Hid (m1.length ≤ 14) := Lib.hid (by rw [hm1, List.length_append]; have := HV1.out; simp; omega)
  have HM2 : Hid (m2.length ≤ 24) := Lib.hid (by rw [hm2, List.length_append]; have := HM1.out; have := HV2.out; omega)
  have HM3 : Hid (m3.length ≤ 34) := Lib.hid (by rw [hm3, List.length_append]; have := HM2.out; have := HV3.out; omega)
  have HE1 := Lib.hid hm1
  have HE2 := Lib.hid hm2
  have HE3 := Lib.hid hm3
  replace HH : Hid (m3 ++ vE l.length = dirTo id width fr l 0) := Lib.hid (by rw [← HH.out, hm3, hm2, hm1])
  clear hm1 hm2 hm3
  go_wp2_with fail
  refine (putS_any _ [76, 75, 66, 49] id id.toNat _ rfl (by have := HID.out; omega) (by simp) (by have := HID.out; omega)).mono ?_
  rintro e w1 ⟨rfl, hb⟩
  have HB := Lib.hid hb
  rw [← HE1.out]
  clear hb
  go_wp2_with fail
  refine (putS_any _ m1 width width.toNat _ rfl (by have := HWI.out; omega) (by have := HM1.out; omega) (by have := HWI.out; omega)).mono ?_
  rintro e w2 ⟨rfl, hb⟩
  replace HB := Lib.hid (HB.out.trans (hb.mono HB.out.size))
  rw [← HE2.out]
  clear hb
  go_wp2_with fail
  refine (putS_any _ m2 fr fr.toNat _ rfl (by have := HFR.out; omega) (by have := HM2.out; omega) (by have := HFR.out; omega)).mono ?_
  rintro e w3 ⟨rfl, hb⟩
  replace HB := Lib.hid (HB.out.trans (hb.mono HB.out.size))
  rw [← HE3.out]
  clear hb
  go_wp2_with fail
  refine (putS_any _ m3 _ l.length _ rfl rfl (by have := HM3.out; omega) (by omega)).mono ?_
  rintro e w4 ⟨rfl, hb⟩
  replace HB := Lib.hid (HB.out.trans (hb.mono HB.out.size))
  rw [HH.out]
  clear hb HH
  go_wp2_with fail
  go_loopw [9, 10] (fun s i wr => ∃ k : Nat, k ≤ l.length ∧ s = .string (str (dirTo id width fr l k)) ∧ i = .int .i64 k ∧ Hid (Below w.heap.size w wr)) (fun _ i _ => l.length - (intOf i).toNat)
  case atStart => exact ⟨0, Nat.zero_le _, rfl, rfl, HB⟩
  case round =>
    obtain ⟨k, hk, rfl, rfl, HBW⟩ := hrel
    by_cases hlt : k < l.length
    · obtain ⟨g, o, A2, c2, rfl, hg, HRG, HLB, HCL⟩ := (HL.out.below HBW.out).get k hlt
      have HST := Lib.hid (dirTo_step (id := id) (width := width) (fr := fr) hlt)
      have HLK := HLEN.out k
      have HX := Lib.hid (HOK.out _ (List.getElem_mem hlt))
      have HRGA : Hid (∀ W' : World, Below w.heap.size w W' → W'.rangeAt g (o + k * 17) (itC (l[k]).sig A2 (l[k]).labs.length c2 (l[k]).zone (l[k]).off (l[k]).size).toList ∧ LabsIn w.heap.size W' A2 (l[k]).labs) := Lib.hid fun W' hW => by
        constructor
        · intro j v hj
          have h1 := HRG.out j v hj
          have h2 := (HBW.out.cell (p := ⟨g, o + k * 17 + j, none⟩) (show g < w.heap.size from hg))
          have h3 := (hW.cell (p := ⟨g, o + k * 17 + j, none⟩) (show g < w.heap.size from hg))
          rw [h3, ← h2]
          exact h1
        · exact (HLB.out.same (w' := w) fun b hb => (HBW.out.block b hb).symm).below hW
      obtain ⟨x, hx⟩ : ∃ x, l[k] = x := ⟨_, rfl⟩
      rw [hx] at HRG HLB HCL HST HX HRGA
      clear hx HRG HLB
      have e1 : wr.cell? ⟨g, o + k * 17 + 1, none⟩ = some (.slice A2 x.labs.length c2) := (HRGA.out _ HBW.out).1 1 _ rfl
      generalize hT0 : dirTo id width fr l k = t0 at *
      have HT0 := Lib.hid hT0
      clear hT0
      go_wp2_with fail
      refine (format05_any A2 c2 x.labs wr ((HRGA.out _ HBW.out).2.mono HBW.out.size) HCL.out (by have := HX.out.labs; omega) (fun y hy => by have := HX.out.lab y hy; omega)).mono ?_
      rintro e w5 ⟨rfl, hb⟩
      have HB5 := Lib.hid (HBW.out.trans (hb.mono HBW.out.size))
      clear hb e1
      have HZ : Hid (w5.rangeAt g (o + k * 17 + 2) x.zone.cells.toList) := Lib.hid (by
        intro j v hj
        have hj' : j < 13 := by
          have := (List.getElem?_eq_some_iff.1 hj).1
          simpa [Zn.cells] using this
        have : (itC x.sig A2 x.labs.length c2 x.zone x.off x.size).toList[2 + j]? = some v := by
          rw [← hj]
          rcases j with _ | _ | _ | _ | _ | _ | _ | _ | _ | _ | _ | _ | _ | j
          all_goals first | rfl | omega
        have h2 := (HRGA.out _ HB5.out).1 (2 + j) v this
        rw [← Nat.add_assoc] at h2
        exact h2)
      have hfl : (fmtL x.labs).length ≤ 8100 := HX.out.fmt
      have hzl := zE_len x.zone
      generalize hT1 : fmtL x.labs = t1 at *
      have HT1 := Lib.hid hT1
      clear hT1
      go_wp2_with (refine wpList_load_mid rfl 44 (.tmp 39) rfl g (o + k * 17 + 2) rfl x.zone.cells.toList _ HZ.out Try.underlying44 rfl size_zone ?_)
      refine (zencode16_any x.zone w5 HX.out.zone.1 HX.out.zone.2).mono ?_
      rintro e w6 ⟨rfl, hb⟩
      have HB6 := Lib.hid (HB5.out.trans (hb.mono HB5.out.size))
      clear hb HZ
      generalize hT2 : zE x.zone = t2 at *
      have HT2 := Lib.hid hT2
      clear hT2
      have e0 : w6.cell? ⟨g, o + k * 17, none⟩ = some (.int .i64 x.sig) := (HRGA.out _ HB6.out).1 0 _ rfl
      go_wp2_with fail
      refine (putS_any _ t0 x.sig x.sig.toNat _ rfl (by have := HX.out.sig; omega) (by omega) (by have := HX.out.sig; omega)).mono ?_
      rintro e w7 ⟨rfl, hb⟩
      have HB7 := Lib.hid (HB6.out.trans (hb.mono HB6.out.size))
      have hv := vE_len x.sig.toNat
      have hs1 : (t0 ++ vE x.sig.toNat).length ≤ 900000010 := by rw [List.length_append]; omega
      generalize hT3 : t0 ++ vE x.sig.toNat = t3 at *
      have HT3 := Lib.hid hT3
      clear hb hT3 hv e0
      go_wp2_with fail
      refine (putS_any _ t3 _ t1.length _ rfl rfl (by omega) (by omega)).mono ?_
      rintro e w8 ⟨rfl, hb⟩
      have HB8 := Lib.hid (HB7.out.trans (hb.mono HB7.out.size))
      have hv := vE_len t1.length
      have hs2 : (t3 ++ vE t1.length).length ≤ 900000020 := by rw [List.length_append]; omega
      generalize hT4 : t3 ++ vE t1.length = t4 at *
      have HT4 := Lib.hid hT4
      have hz1 : (str t1).size = t1.length := str_size t1
      have hz2 : (str t4).size = t4.length := str_size t4
      have k1 : ¬ 9223372036854775807 < (str t4).size + (str t1).size := by omega
      clear hb hT4 hv
      go_wp2_with fail
      refine (putS_any _ (t4 ++ t1) _ t2.length _ (str_append _ _).symm rfl (by rw [List.length_append]; omega) (by omega)).mono ?_
      rintro e w9 ⟨rfl, hb⟩
      have HB9 := Lib.hid (HB8.out.trans (hb.mono HB8.out.size))
      have hv := vE_len t2.length
      have hs3 : ((t4 ++ t1) ++ vE t2.length).length ≤ 900009000 := by rw [List.length_append, List.length_append]; omega
      generalize hT5 : (t4 ++ t1) ++ vE t2.length = t5 at *
      have HT5 := Lib.hid hT5
      have hz3 : (str t2).size = t2.length := str_size t2
      have hz4 : (str t5).size = t5.length := str_size t5
      have k2 : ¬ 9223372036854775807 < (str t5).size + (str t2).size := by omega
      have e3 : w9.cell? ⟨g, o + k * 17 + 15, none⟩ = some (.int .i64 x.off) := (HRGA.out _ HB9.out).1 15 _ rfl
      have e4 : w9.cell? ⟨g, o + k * 17 + 16, none⟩ = some (.int .i64 x.size) := (HRGA.out _ HB9.out).1 16 _ rfl
      have HCELL : Hid (∀ W' : World, Below w.heap.size w W' → W'.cell? ⟨g, o + k * 17 + 15, none⟩ = some (.int .i64 x.off) ∧ W'.cell? ⟨g, o + k * 17 + 16, none⟩ = some (.int .i64 x.size)) := Lib.hid fun W' hW => ⟨(HRGA.out _ hW).1 15 _ rfl, (HRGA.out _ hW).1 16 _ rfl⟩
      have HP1 : Hid (∀ W' : World, Below w.heap.size w W' → Calls Try.prog 47 #[.string (str t5 ++ str t2), .int .i64 x.off] W' fun e w' => e = .returned (.string (str ((t5 ++ t2) ++ vE x.off.toNat))) ∧ Below w.heap.size w w') := Lib.hid fun W' hW => (putS_any _ (t5 ++ t2) _ x.off.toNat W' (str_append _ _).symm (by have := HX.out.off; omega) (by rw [List.length_append]; omega) (by have := HX.out.off; omega)).mono fun e w' ⟨h1, h2⟩ => ⟨h1, hW.trans (h2.mono hW.size)⟩
      have hv2 := vE_len x.off.toNat
      have HP2 : Hid (∀ W' : World, Below w.heap.size w W' → Calls Try.prog 47 #[.string (str ((t5 ++ t2) ++ vE x.off.toNat)), .int .i64 x.size] W' fun e w' => e = .returned (.string (str (((t5 ++ t2) ++ vE x.off.toNat) ++ vE x.size.toNat))) ∧ Below w.heap.size w w') := Lib.hid fun W' hW => (putS_any _ ((t5 ++ t2) ++ vE x.off.toNat) _ x.size.toNat W' rfl (by have := HX.out.size; omega) (by rw [List.length_append, List.length_append]; omega) (by have := HX.out.size; omega)).mono fun e w' ⟨h1, h2⟩ => ⟨h1, hW.trans (h2.mono hW.size)⟩
      have HFIN : Hid (((t5 ++ t2) ++ vE x.off.toNat) ++ vE x.size.toNat = dirTo id width fr l (k + 1)) := Lib.hid HST.out.symm
      clear hb hT5 hv hv2 hfl hzl HST HX HRGA
      go_wp2_with fail
      rw [HFIN.out] at HP2
      clear HFIN
      generalize str t5 ++ str t2 = S1 at *
      generalize str (t5 ++ t2 ++ vE x.off.toNat) = S2 at *
      generalize hS3 : str (dirTo id width fr l (k + 1)) = S3 at *
      have HS3 := Lib.hid hS3
      clear hS3
      go_region_held3 (fun w' => w'.cell? ⟨g, o + k * 17 + 15, none⟩ = some (.int .i64 x.off) ∧ w'.cell? ⟨g, o + k * 17 + 16, none⟩ = some (.int .i64 x.size) ∧ Below w.heap.size w w') ((first | assumption | exact ⟨e3, e4, below_drew HB9.out⟩ | exact ⟨(HCELL.out _ hb).1, (HCELL.out _ hb).2, hb⟩ | go_keep))
        (first | (go_at_call 47; with_reducible refine (HP1.out _ ?_).mono ?_; (exact (‹_ ∧ _ ∧ Below w.heap.size w _›).2.2); rintro e w' ⟨rfl, hb⟩) | (go_at_call 47; with_reducible refine (HP2.out _ ?_).mono ?_; (exact (‹_ ∧ _ ∧ Below w.heap.size w _›).2.2); rintro e w' ⟨rfl, hb⟩))
      rw [← HS3.out]
      go_wp2_with fail
      go_roundw
      case rel => exact ⟨k + 1, hlt, rfl, by go_num, Lib.hid (‹_ ∧ _ ∧ Below w.heap.size w _›).2.2⟩
      case measure => simp [intOf]; omega
    · have HE : Hid (dirTo id width fr l k = dirB id width fr l) := Lib.hid (by rw [show k = l.length by omega]; exact dirTo_end _ _ _ _)
      rw [HE.out]
      go_wp2_with fail
      go_ret
      exact ⟨rfl, HBW.out⟩
end Go.Proofs.Ytoojpfcnekpboaa
