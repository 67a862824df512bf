/- A directory that was read was written: plain Lean. Walks: the directory (the reference's). -/
import Derived.Test.YtoojpfcnekpboaaGreatZBP
import Derived.Test.YtoojpfcnekpboaaGreatZAR
namespace Go.Proofs.YtoojpfcnekpboaaGreat

theorem rNum_ok (st : RS) (h : (rNum st).2.bad = false) : st.bad = false ∧ 0 ≤ (rNum st).1 ∧ (rNum st).1 ≤ 1152921504606846976 ∧ bs st.rest = vE (rNum st).1.toNat ++ bs (rNum st).2.rest := by
  have hb := rNum_bounds st
  refine ⟨?_, hb.1, hb.2.1, ?_⟩
  · cases e : st.bad with
    | false => rfl
    | true => rw [rNum_bad st e] at h; cases h
  · unfold rNum at h ⊢
    split at h
    · cases h
    · rename_i hn
      rw [if_neg hn]
      have h0 : (rdG st.rest).2.2 = 0 := by
        by_cases h1 : (rdG st.rest).2.2 = 0
        · exact h1
        · exact absurd (.inr h1) hn
      obtain ⟨m, h1, h2, h3, h4, h5⟩ := rdG_ok st.rest _ _ (trip_eta _ h0)
      show _ = vE (rdG st.rest).1.toNat ++ bs (cutS st.rest (rdG st.rest).2.1.toNat)
      rw [cutS_bs, h1, h3, Int.toNat_natCast, Int.toNat_natCast]
      exact h5
theorem rByt_ok (n : Int) (st : RS) (hn : 0 ≤ n) (h : (rByt n st).2.bad = false) : st.bad = false ∧ n = (rByt n st).1.size ∧ bs st.rest = bs (rByt n st).1 ++ bs (rByt n st).2.rest := by
  have hb : st.bad = false := by
    cases e : st.bad with
    | false => rfl
    | true => rw [rByt_bad n st e] at h; cases h
  refine ⟨hb, ?_⟩
  unfold rByt at h ⊢
  split at h
  · cases h
  · rename_i hc
    rw [if_neg hc]
    have hle : n ≤ st.rest.size := by
      by_cases h1 : (st.rest.size : Int) < n
      · exact absurd (.inr h1) hc
      · omega
    refine ⟨?_, ?_⟩
    · show n = ((st.rest.extract 0 n.toNat).size : Int)
      rw [ByteArray.size_extract]
      omega
    · show _ = bs (st.rest.extract 0 n.toNat) ++ bs (cutS st.rest n.toNat)
      rw [bs_ext, cutS_bs, List.drop_zero, Nat.sub_zero, List.take_append_drop]
/-- What the seven readings of an item say of its bytes. -/
structure RIOk (st : RS) (r : RI) : Prop where
  bad : st.bad = false
  sig : 0 ≤ r.sig
  off : 0 ≤ r.off
  size : 0 ≤ r.size
  bytes : bs st.rest = vE r.sig.toNat ++ vE r.text.size ++ bs r.text ++ vE r.zone.size ++ bs r.zone ++ vE r.off.toNat ++ vE r.size.toNat ++ bs r.st.rest
theorem rRaw_ok (st : RS) (h : (rRaw st).st.bad = false) : RIOk st (rRaw st) := by
  obtain ⟨a, ha⟩ : ∃ a, a = rNum st := ⟨_, rfl⟩
  obtain ⟨b, hb⟩ : ∃ b, b = rNum a.2 := ⟨_, rfl⟩
  obtain ⟨t, ht⟩ : ∃ t, t = rByt b.1 b.2 := ⟨_, rfl⟩
  obtain ⟨c, hc⟩ : ∃ c, c = rNum t.2 := ⟨_, rfl⟩
  obtain ⟨z, hz⟩ : ∃ z, z = rByt c.1 c.2 := ⟨_, rfl⟩
  obtain ⟨o, ho⟩ : ∃ o, o = rNum z.2 := ⟨_, rfl⟩
  obtain ⟨q, hq⟩ : ∃ q, q = rNum o.2 := ⟨_, rfl⟩
  have e : rRaw st = ⟨a.1, t.1, z.1, o.1, q.1, q.2⟩ := by
    unfold rRaw
    simp only [← ha, ← hb, ← ht, ← hc, ← hz, ← ho, ← hq]
  rw [e] at h ⊢
  have kq := rNum_ok o.2 (by rw [← hq]; exact h)
  have ko := rNum_ok z.2 (by rw [← ho]; exact kq.1)
  have b1 := (rNum_bounds t.2).1
  have kz := rByt_ok c.1 c.2 (by rw [hc]; exact b1) (by rw [← hz]; exact ko.1)
  have kc := rNum_ok t.2 (by rw [← hc]; exact kz.1)
  have b2 := (rNum_bounds a.2).1
  have kt := rByt_ok b.1 b.2 (by rw [hb]; exact b2) (by rw [← ht]; exact kc.1)
  have kb := rNum_ok a.2 (by rw [← hb]; exact kt.1)
  have ka := rNum_ok st (by rw [← ha]; exact kb.1)
  rw [← hq] at kq
  rw [← ho] at ko
  rw [← hz] at kz
  rw [← hc] at kc
  rw [← ht] at kt
  rw [← hb] at kb
  rw [← ha] at ka
  have n1 : b.1.toNat = t.1.size := by rw [kt.2.1, Int.toNat_natCast]
  have n2 : c.1.toNat = z.1.size := by rw [kz.2.1, Int.toNat_natCast]
  refine ⟨ka.1, ka.2.1, ko.2.1, kq.2.1, ?_⟩
  show bs st.rest = vE a.1.toNat ++ vE t.1.size ++ bs t.1 ++ vE z.1.size ++ bs z.1 ++ vE o.1.toNat ++ vE q.1.toNat ++ bs q.2.rest
  rw [ka.2.2.2, kb.2.2.2, kt.2.2, kc.2.2.2, kz.2.2, ko.2.2.2, kq.2.2.2, n1, n2]
  simp only [List.append_assoc]
theorem zD_ok (s : ByteArray) (h : (zD s).2 = 0) : ZW (zD s).1 ∧ zchk (zD s).1 = 0 ∧ bs s = zE (zD s).1 := by
  unfold zD at h ⊢
  cases e : zP s with
  | none => rw [e] at h; cases h
  | some z =>
    rw [e] at h
    simp only at h ⊢
    by_cases hz : zchk z = 0
    · have h1 := zP_ok s z e
      rw [if_pos hz]
      exact ⟨h1.1, hz, h1.2 hz⟩
    · rw [if_neg hz] at h
      cases h
/-- What is known of an item that was read. -/
structure ItOk (a : Int) (x : Itm) : Prop where
  sig : 0 ≤ x.sig
  off : x.off = a
  size : 4 ≤ x.size ∧ x.size ≤ 262148
  labs : chkL x.labs = 0
  zone : zchk x.zone = 0
  word : ZW x.zone
theorem rItm_ok (a : Int) (st : RS) (h : (rItm a st).2.bad = false) : st.bad = false ∧ ItOk a (rItm a st).1 ∧ bs st.rest = itB (rItm a st).1 ++ bs (rItm a st).2.rest := by
  unfold rItm at h ⊢
  simp only at h ⊢
  by_cases hc : (rRaw st).st.bad = true ∨ (rRaw st).off ≠ a ∨ (rRaw st).size < 4 ∨ 262148 < (rRaw st).size
  · rw [if_pos hc] at h
    cases h
  · rw [if_neg hc] at h ⊢
    have hb : (rRaw st).st.bad = false := by
      cases e : (rRaw st).st.bad with
      | false => rfl
      | true => exact absurd (.inl e) hc
    have ho : (rRaw st).off = a := by
      by_cases h1 : (rRaw st).off = a
      · exact h1
      · exact absurd (.inr (.inl h1)) hc
    have hq : 4 ≤ (rRaw st).size ∧ (rRaw st).size ≤ 262148 := by omega
    have hk := rRaw_ok st hb
    have hd := of_decide_eq_false h
    have hp : (parE (rRaw st).text).2 = 0 := by
      by_cases h1 : (parE (rRaw st).text).2 = 0
      · exact h1
      · exact absurd (.inl h1) hd
    have hz : (zD (rRaw st).zone).2 = 0 := by
      by_cases h1 : (zD (rRaw st).zone).2 = 0
      · exact h1
      · exact absurd (.inr h1) hd
    have kp := parE_ok (rRaw st).text (parE (rRaw st).text).1 (by rw [← hp])
    have kz := zD_ok (rRaw st).zone hz
    refine ⟨hk.bad, ⟨hk.sig, ho, hq, kp.2, kz.2.1, kz.1⟩, ?_⟩
    show _ = itB ⟨(rRaw st).sig, (parE (rRaw st).text).1, (zD (rRaw st).zone).1, (rRaw st).off, (rRaw st).size⟩ ++ bs (rRaw st).st.rest
    rw [hk.bytes]
    unfold itB
    simp only
    rw [← kp.1, ← kz.2.2, bs_length, bs_length]
/-- The items that were read follow each other. -/
def ItsOk : Int → List Itm → Prop
  | _, [] => True
  | a, x :: r => ItOk a x ∧ ItsOk (a + x.size) r
theorem rLoop_bad (count : Int) : ∀ (f : Nat) (a : Int) (st : RS) (acc : List Itm), st.bad = true → (rLoop count f a st acc).2.2.bad = true
  | 0, _, _, _, h => h
  | f + 1, a, st, acc, h => by
    unfold rLoop
    rw [if_neg (by rw [h]; simp)]
    exact h
theorem rLoop_ok (count : Int) : ∀ (f : Nat) (a : Int) (st : RS) (acc : List Itm), count < f + acc.length → (acc.length : Int) ≤ count → (rLoop count f a st acc).2.2.bad = false →
    ∃ l, (rLoop count f a st acc).1 = acc ++ l ∧ (rLoop count f a st acc).2.1 = a + sizes l ∧ count = acc.length + l.length ∧ st.bad = false ∧ ItsOk a l ∧ bs st.rest = l.flatMap itB ++ bs (rLoop count f a st acc).2.2.rest
  | 0, a, st, acc, hf, hc, h => by omega
  | f + 1, a, st, acc, hf, hc, h => by
    unfold rLoop at h ⊢
    by_cases hi : st.bad = false ∧ (acc.length : Int) < count
    · rw [if_pos hi] at h ⊢
      have hl : ((acc ++ [(rItm a st).1]).length : Int) = acc.length + 1 := by rw [List.length_append, List.length_singleton]; push_cast; rfl
      obtain ⟨l, h1, h2, h3, h4, h5, h6⟩ := rLoop_ok count f (a + (rItm a st).1.size) (rItm a st).2 (acc ++ [(rItm a st).1]) (by rw [hl]; push_cast at hf; omega) (by rw [hl]; omega) h
      obtain ⟨k1, k2, k3⟩ := rItm_ok a st h4
      refine ⟨(rItm a st).1 :: l, by rw [h1, List.append_assoc]; rfl, ?_, ?_, hi.1, ⟨k2, h5⟩, ?_⟩
      · rw [h2]
        unfold sizes
        rw [List.map_cons, List.sum_cons]
        omega
      · rw [List.length_cons]
        rw [hl] at h3
        push_cast
        omega
      · rw [k3, h6, List.flatMap_cons, List.append_assoc]
    · rw [if_neg hi] at h ⊢
      have hb : st.bad = false := h
      have hcc : count = acc.length := by
        by_cases h1 : (acc.length : Int) < count
        · exact absurd ⟨hb, h1⟩ hi
        · omega
      exact ⟨[], by simp, by simp [sizes], by simpa using hcc, hb, trivial, by simp⟩
theorem rBlk_ok (st : RS) (h : (rBlk st).st.bad = false) : (0 ≤ (rBlk st).id ∧ 0 ≤ (rBlk st).width ∧ 0 ≤ (rBlk st).fr) ∧ (rBlk st).total = sizes (rBlk st).items ∧ (rBlk st).items.length ≤ 4000 ∧ ItsOk 0 (rBlk st).items ∧ bs st.rest = dirB (rBlk st).id (rBlk st).width (rBlk st).fr (rBlk st).items ++ bs (rBlk st).st.rest := by
  rw [rBlk_eq] at h ⊢
  obtain ⟨m, hm⟩ : ∃ m, m = rByt 4 st := ⟨_, rfl⟩
  rw [← hm] at h ⊢
  obtain ⟨d, hd⟩ : ∃ d, d = (if m.1 = str magicB then m.2 else ⟨m.2.rest, true⟩ : RS) := ⟨_, rfl⟩
  rw [← hd] at h ⊢
  obtain ⟨⟨v1, s1⟩, e1⟩ : ∃ p, rNum d = p := ⟨_, rfl⟩
  obtain ⟨⟨v2, s2⟩, e2⟩ : ∃ p, rNum s1 = p := ⟨_, rfl⟩
  obtain ⟨⟨v3, s3⟩, e3⟩ : ∃ p, rNum s2 = p := ⟨_, rfl⟩
  obtain ⟨⟨v4, s4⟩, e4⟩ : ∃ p, rNum s3 = p := ⟨_, rfl⟩
  rw [rBlk2_eq e1 e2 e3 e4] at h ⊢
  simp only at h ⊢
  by_cases hc : 4000 < v4
  · rw [if_pos hc] at h
    rw [rLoop_bad _ _ _ _ _ rfl] at h
    cases h
  · rw [if_neg hc] at h ⊢
    have b4 := (rNum_bounds s3).1
    rw [e4] at b4
    obtain ⟨l, h1, h2, h3, h4, h5, h6⟩ := rLoop_ok v4 4001 0 s4 [] (by simp; omega) (by simpa using b4) h
    have k4 := rNum_ok s3 (by rw [e4]; exact h4)
    have k3 := rNum_ok s2 (by rw [e3]; exact k4.1)
    have k2 := rNum_ok s1 (by rw [e2]; exact k3.1)
    have k1 := rNum_ok d (by rw [e1]; exact k2.1)
    rw [e4] at k4
    rw [e3] at k3
    rw [e2] at k2
    rw [e1] at k1
    simp only at k1 k2 k3 k4
    by_cases hmm : m.1 = str magicB
    · rw [if_pos hmm] at hd
      have hdb := k1.1
      rw [hd] at hdb
      have km := rByt_ok 4 st (by decide) (by rw [← hm]; exact hdb)
      rw [← hm] at km
      rw [List.nil_append] at h1
      rw [h1]
      refine ⟨⟨k1.2.1, k2.2.1, k3.2.1⟩, by rw [h2, Int.zero_add], ?_, h5, ?_⟩
      · simp at h3
        omega
      · have hv4 : v4.toNat = l.length := by simp at h3; omega
        rw [km.2.2, hmm, bs_str, ← hd, k1.2.2.2, k2.2.2.2, k3.2.2.2, k4.2.2.2, h6, hv4]
        unfold dirB headB
        simp only [List.append_assoc]
    · rw [if_neg hmm] at hd
      have hdb := k1.1
      rw [hd] at hdb
      cases hdb
end Go.Proofs.YtoojpfcnekpboaaGreat

namespace Go.Proofs.YtoojpfcnekpboaaGreat
open Go.RowKit

/-- An item that can be written. -/
structure ItmOK (x : Itm) : Prop where mk ::
  sig : 0 ≤ x.sig ∧ x.sig ≤ 1152921504606846976
  off : 0 ≤ x.off ∧ x.off ≤ 1152921504606846976
  size : 0 ≤ x.size ∧ x.size ≤ 1152921504606846976
  zone : zchk x.zone = 0 ∧ ZW x.zone
  labs : x.labs.length ≤ 17
  lab : ∀ y ∈ x.labs, y.name.size ≤ 61 ∧ y.value.size ≤ 201
theorem ItmOK.fmt {x : Itm} (h : ItmOK x) : (fmtL x.labs).length ≤ 8100 := fmtL_len2 _ h.labs h.lab
theorem ItmOK.len {x : Itm} (h : ItmOK x) : (itB x).length ≤ 8300 := itB_len x h.fmt
theorem putS_any (s : ByteArray) (l : List UInt8) (n : Int) (k : Nat) (w : World) (hs : s = str l) (hn : n = (k : Int)) (hl : l.length ≤ 1000000000) (hk : k ≤ 1152921504606846976) :
    Calls Tryz.prog 133 #[.string s, .int .i64 n] w fun e w' => e = .returned (.string (str (l ++ vE k))) ∧ Below w.heap.size w w' := by
  subst hs hn
  refine (put_any (str l) k w hl (by omega) (by omega)).mono ?_
  rintro e w' ⟨rfl, hb⟩
  exact ⟨by rw [str_append]; rfl, hb⟩
def dirTo (id width fr : Int) (l : List Itm) (k : Nat) : List UInt8 := headB id width fr l.length ++ (l.take k).flatMap itB
theorem dirTo_step {id width fr : Int} {l : List Itm} {k : Nat} (h : k < l.length) : dirTo id width fr l (k + 1) = dirTo id width fr l k ++ vE (l[k]).sig.toNat ++ vE (fmtL (l[k]).labs).length ++ fmtL (l[k]).labs ++ vE (zE (l[k]).zone).length ++ zE (l[k]).zone ++ vE (l[k]).off.toNat ++ vE (l[k]).size.toNat := by
  unfold dirTo
  rw [List.take_succ_eq_append_getElem h, List.flatMap_append]
  simp only [List.flatMap_cons, List.flatMap_nil, List.append_nil, itB, List.append_assoc]
theorem dirTo_end (id width fr : Int) (l : List Itm) : dirTo id width fr l l.length = dirB id width fr l := by
  unfold dirTo dirB
  rw [List.take_length]
theorem dirTo_len {id width fr : Int} {l : List Itm} (h : ∀ x ∈ l, ItmOK x) (hl : l.length ≤ 100000) (k : Nat) : (dirTo id width fr l k).length ≤ 900000000 := by
  have h1 := headB_len id width fr l.length
  have h2 := itms_len (l.take k) (fun x hx => (h x (List.mem_of_mem_take hx)).len)
  have h3 : (l.take k).length ≤ l.length := by rw [List.length_take]; omega
  unfold dirTo
  rw [List.length_append]
  omega

set_option maxRecDepth 100000 in
set_option maxHeartbeats 8000000 in
theorem directoryR_any (id width fr : Int) (A : Option Addr) (c : Nat) (l : List Itm) (w : World) (hl : ItmsIn w.heap.size w A l) (hc : l.length ≤ c) (hok : ∀ x ∈ l, ItmOK x) (hn : l.length ≤ 100000)
    (hid : 0 ≤ id ∧ id ≤ 1152921504606846976) (hwi : 0 ≤ width ∧ width ≤ 1152921504606846976) (hfr : 0 ≤ fr ∧ fr ≤ 1152921504606846976) :
    Calls Tryz.prog 102 #[.int .i64 id, .int .i64 width, .int .i64 fr, .slice A l.length c] w fun e w' => e = .returned (.string (str (dirB id width fr l))) ∧ Below w.heap.size w w' := by
  have HL := Lib.hid hl
  have HC := Lib.hid hc
  have HOK := Lib.hid hok
  have HLEN : Hid (∀ k, (dirTo id width fr l k).length ≤ 900000000) := Lib.hid (dirTo_len hok hn)
  have HID := Lib.hid hid
  have HWI := Lib.hid hwi
  have HFR := Lib.hid hfr
  have HH : Hid ((((([76, 75, 66, 49] : List UInt8) ++ vE id.toNat) ++ vE width.toNat) ++ vE fr.toNat) ++ vE l.length = dirTo id width fr l 0) := Lib.hid (by unfold dirTo headB magicB; simp)
  have hv1 := vE_len id.toNat
  have hv2 := vE_len width.toNat
  have hv3 := vE_len fr.toNat
  have HV1 := Lib.hid hv1
  have HV2 := Lib.hid hv2
  have HV3 := Lib.hid hv3
  clear hl hc hok hid hwi hfr hv1 hv2 hv3
  go_enter Tryz.func102, Tryz.ntmps102
  obtain ⟨m1, hm1⟩ : ∃ m, m = [76, 75, 66, 49] ++ vE id.toNat := ⟨_, rfl⟩
  obtain ⟨m2, hm2⟩ : ∃ m, m = m1 ++ vE width.toNat := ⟨_, rfl⟩
  obtain ⟨m3, hm3⟩ : ∃ m, m = m2 ++ vE fr.toNat := ⟨_, rfl⟩
  have HM1 : Hid (m1.length ≤ 14) := Lib.hid (by rw [hm1, List.length_append]; have := HV1.out; simp; omega)
  have HM2 : Hid (m2.length ≤ 24) := Lib.hid (by rw [hm2, List.length_append]; have := HM1.out; have := HV2.out; omega)
  have HM3 : Hid (m3.length ≤ 34) := Lib.hid (by rw [hm3, List.length_append]; have := HM2.out; have := HV3.out; omega)
  have HE1 := Lib.hid hm1
  have HE2 := Lib.hid hm2
  have HE3 := Lib.hid hm3
  replace HH : Hid (m3 ++ vE l.length = dirTo id width fr l 0) := Lib.hid (by rw [← HH.out, hm3, hm2, hm1])
  clear hm1 hm2 hm3
  go_wp2_with fail
  refine (putS_any _ [76, 75, 66, 49] id id.toNat _ rfl (by have := HID.out; omega) (by simp) (by have := HID.out; omega)).mono ?_
  rintro e w1 ⟨rfl, hb⟩
  have HB := Lib.hid hb
  rw [← HE1.out]
  clear hb
  go_wp2_with fail
  refine (putS_any _ m1 width width.toNat _ rfl (by have := HWI.out; omega) (by have := HM1.out; omega) (by have := HWI.out; omega)).mono ?_
  rintro e w2 ⟨rfl, hb⟩
  replace HB := Lib.hid (HB.out.trans (hb.mono HB.out.size))
  rw [← HE2.out]
  clear hb
  go_wp2_with fail
  refine (putS_any _ m2 fr fr.toNat _ rfl (by have := HFR.out; omega) (by have := HM2.out; omega) (by have := HFR.out; omega)).mono ?_
  rintro e w3 ⟨rfl, hb⟩
  replace HB := Lib.hid (HB.out.trans (hb.mono HB.out.size))
  rw [← HE3.out]
  clear hb
  go_wp2_with fail
  refine (putS_any _ m3 _ l.length _ rfl rfl (by have := HM3.out; omega) (by omega)).mono ?_
  rintro e w4 ⟨rfl, hb⟩
  replace HB := Lib.hid (HB.out.trans (hb.mono HB.out.size))
  rw [HH.out]
  clear hb HH
  go_wp2_with fail
  go_loopw [9, 10] (fun s i wr => ∃ k : Nat, k ≤ l.length ∧ s = .string (str (dirTo id width fr l k)) ∧ i = .int .i64 k ∧ Hid (Below w.heap.size w wr)) (fun _ i _ => l.length - (intOf i).toNat)
  case atStart => exact ⟨0, Nat.zero_le _, rfl, rfl, HB⟩
  case round =>
    obtain ⟨k, hk, rfl, rfl, HBW⟩ := hrel
    by_cases hlt : k < l.length
    · obtain ⟨g, o, A2, c2, rfl, hg, HRG, HLB, HCL⟩ := (HL.out.below HBW.out).get k hlt
      have HST := Lib.hid (dirTo_step (id := id) (width := width) (fr := fr) hlt)
      have HLK := HLEN.out k
      have HX := Lib.hid (HOK.out _ (List.getElem_mem hlt))
      have HRGA : Hid (∀ W' : World, Below w.heap.size w W' → W'.rangeAt g (o + k * 17) (itC (l[k]).sig A2 (l[k]).labs.length c2 (l[k]).zone (l[k]).off (l[k]).size).toList ∧ LabsIn w.heap.size W' A2 (l[k]).labs) := Lib.hid fun W' hW => by
        constructor
        · intro j v hj
          have h1 := HRG.out j v hj
          have h2 := (HBW.out.cell (p := ⟨g, o + k * 17 + j, none⟩) (show g < w.heap.size from hg))
          have h3 := (hW.cell (p := ⟨g, o + k * 17 + j, none⟩) (show g < w.heap.size from hg))
          rw [h3, ← h2]
          exact h1
        · exact (HLB.out.same (w' := w) fun b hb => (HBW.out.block b hb).symm).below hW
      obtain ⟨x, hx⟩ : ∃ x, l[k] = x := ⟨_, rfl⟩
      rw [hx] at HRG HLB HCL HST HX HRGA
      clear hx HRG HLB
      have e1 : wr.cell? ⟨g, o + k * 17 + 1, none⟩ = some (.slice A2 x.labs.length c2) := (HRGA.out _ HBW.out).1 1 _ rfl
      generalize hT0 : dirTo id width fr l k = t0 at *
      have HT0 := Lib.hid hT0
      clear hT0
      go_wp2_with fail
      refine (format05_any A2 c2 x.labs wr ((HRGA.out _ HBW.out).2.mono HBW.out.size) HCL.out (by have := HX.out.labs; omega) (fun y hy => by have := HX.out.lab y hy; omega)).mono ?_
      rintro e w5 ⟨rfl, hb⟩
      have HB5 := Lib.hid (HBW.out.trans (hb.mono HBW.out.size))
      clear hb e1
      have HZ : Hid (w5.rangeAt g (o + k * 17 + 2) x.zone.cells.toList) := Lib.hid (by
        intro j v hj
        have hj' : j < 13 := by
          have := (List.getElem?_eq_some_iff.1 hj).1
          simpa [Zn.cells] using this
        have : (itC x.sig A2 x.labs.length c2 x.zone x.off x.size).toList[2 + j]? = some v := by
          rw [← hj]
          rcases j with _ | _ | _ | _ | _ | _ | _ | _ | _ | _ | _ | _ | _ | j
          all_goals first | rfl | omega
        have h2 := (HRGA.out _ HB5.out).1 (2 + j) v this
        rw [← Nat.add_assoc] at h2
        exact h2)
      have hfl : (fmtL x.labs).length ≤ 8100 := HX.out.fmt
      have hzl := zE_len x.zone
      generalize hT1 : fmtL x.labs = t1 at *
      have HT1 := Lib.hid hT1
      clear hT1
      go_wp2_with (refine wpList_load_mid rfl 50 (.tmp 39) rfl g (o + k * 17 + 2) rfl x.zone.cells.toList _ HZ.out Tryz.underlying50 rfl size_zone ?_)
      refine (zencode16_any x.zone w5 HX.out.zone.1 HX.out.zone.2).mono ?_
      rintro e w6 ⟨rfl, hb⟩
      have HB6 := Lib.hid (HB5.out.trans (hb.mono HB5.out.size))
      clear hb HZ
      generalize hT2 : zE x.zone = t2 at *
      have HT2 := Lib.hid hT2
      clear hT2
      have e0 : w6.cell? ⟨g, o + k * 17, none⟩ = some (.int .i64 x.sig) := (HRGA.out _ HB6.out).1 0 _ rfl
      go_wp2_with fail
      refine (putS_any _ t0 x.sig x.sig.toNat _ rfl (by have := HX.out.sig; omega) (by omega) (by have := HX.out.sig; omega)).mono ?_
      rintro e w7 ⟨rfl, hb⟩
      have HB7 := Lib.hid (HB6.out.trans (hb.mono HB6.out.size))
      have hv := vE_len x.sig.toNat
      have hs1 : (t0 ++ vE x.sig.toNat).length ≤ 900000010 := by rw [List.length_append]; omega
      generalize hT3 : t0 ++ vE x.sig.toNat = t3 at *
      have HT3 := Lib.hid hT3
      clear hb hT3 hv e0
      go_wp2_with fail
      refine (putS_any _ t3 _ t1.length _ rfl rfl (by omega) (by omega)).mono ?_
      rintro e w8 ⟨rfl, hb⟩
      have HB8 := Lib.hid (HB7.out.trans (hb.mono HB7.out.size))
      have hv := vE_len t1.length
      have hs2 : (t3 ++ vE t1.length).length ≤ 900000020 := by rw [List.length_append]; omega
      generalize hT4 : t3 ++ vE t1.length = t4 at *
      have HT4 := Lib.hid hT4
      have hz1 : (str t1).size = t1.length := str_size t1
      have hz2 : (str t4).size = t4.length := str_size t4
      have k1 : ¬ 9223372036854775807 < (str t4).size + (str t1).size := by omega
      clear hb hT4 hv
      go_wp2_with fail
      refine (putS_any _ (t4 ++ t1) _ t2.length _ (str_append _ _).symm rfl (by rw [List.length_append]; omega) (by omega)).mono ?_
      rintro e w9 ⟨rfl, hb⟩
      have HB9 := Lib.hid (HB8.out.trans (hb.mono HB8.out.size))
      have hv := vE_len t2.length
      have hs3 : ((t4 ++ t1) ++ vE t2.length).length ≤ 900009000 := by rw [List.length_append, List.length_append]; omega
      generalize hT5 : (t4 ++ t1) ++ vE t2.length = t5 at *
      have HT5 := Lib.hid hT5
      have hz3 : (str t2).size = t2.length := str_size t2
      have hz4 : (str t5).size = t5.length := str_size t5
      have k2 : ¬ 9223372036854775807 < (str t5).size + (str t2).size := by omega
      have e3 : w9.cell? ⟨g, o + k * 17 + 15, none⟩ = some (.int .i64 x.off) := (HRGA.out _ HB9.out).1 15 _ rfl
      have e4 : w9.cell? ⟨g, o + k * 17 + 16, none⟩ = some (.int .i64 x.size) := (HRGA.out _ HB9.out).1 16 _ rfl
      have HCELL : Hid (∀ W' : World, Below w.heap.size w W' → W'.cell? ⟨g, o + k * 17 + 15, none⟩ = some (.int .i64 x.off) ∧ W'.cell? ⟨g, o + k * 17 + 16, none⟩ = some (.int .i64 x.size)) := Lib.hid fun W' hW => ⟨(HRGA.out _ hW).1 15 _ rfl, (HRGA.out _ hW).1 16 _ rfl⟩
      have HP1 : Hid (∀ W' : World, Below w.heap.size w W' → Calls Tryz.prog 133 #[.string (str t5 ++ str t2), .int .i64 x.off] W' fun e w' => e = .returned (.string (str ((t5 ++ t2) ++ vE x.off.toNat))) ∧ Below w.heap.size w w') := Lib.hid fun W' hW => (putS_any _ (t5 ++ t2) _ x.off.toNat W' (str_append _ _).symm (by have := HX.out.off; omega) (by rw [List.length_append]; omega) (by have := HX.out.off; omega)).mono fun e w' ⟨h1, h2⟩ => ⟨h1, hW.trans (h2.mono hW.size)⟩
      have hv2 := vE_len x.off.toNat
      have HP2 : Hid (∀ W' : World, Below w.heap.size w W' → Calls Tryz.prog 133 #[.string (str ((t5 ++ t2) ++ vE x.off.toNat)), .int .i64 x.size] W' fun e w' => e = .returned (.string (str (((t5 ++ t2) ++ vE x.off.toNat) ++ vE x.size.toNat))) ∧ Below w.heap.size w w') := Lib.hid fun W' hW => (putS_any _ ((t5 ++ t2) ++ vE x.off.toNat) _ x.size.toNat W' rfl (by have := HX.out.size; omega) (by rw [List.length_append, List.length_append]; omega) (by have := HX.out.size; omega)).mono fun e w' ⟨h1, h2⟩ => ⟨h1, hW.trans (h2.mono hW.size)⟩
      have HFIN : Hid (((t5 ++ t2) ++ vE x.off.toNat) ++ vE x.size.toNat = dirTo id width fr l (k + 1)) := Lib.hid HST.out.symm
      clear hb hT5 hv hv2 hfl hzl HST HX HRGA
      go_wp2_with fail
      rw [HFIN.out] at HP2
      clear HFIN
      generalize str t5 ++ str t2 = S1 at *
      generalize str (t5 ++ t2 ++ vE x.off.toNat) = S2 at *
      generalize hS3 : str (dirTo id width fr l (k + 1)) = S3 at *
      have HS3 := Lib.hid hS3
      clear hS3
      go_region_held3 (fun w' => w'.cell? ⟨g, o + k * 17 + 15, none⟩ = some (.int .i64 x.off) ∧ w'.cell? ⟨g, o + k * 17 + 16, none⟩ = some (.int .i64 x.size) ∧ Below w.heap.size w w') ((first | assumption | exact ⟨e3, e4, below_drew HB9.out⟩ | exact ⟨(HCELL.out _ hb).1, (HCELL.out _ hb).2, hb⟩ | go_keep))
        (first | (go_at_call 133; with_reducible refine (HP1.out _ ?_).mono ?_; (exact (‹_ ∧ _ ∧ Below w.heap.size w _›).2.2); rintro e w' ⟨rfl, hb⟩) | (go_at_call 133; with_reducible refine (HP2.out _ ?_).mono ?_; (exact (‹_ ∧ _ ∧ Below w.heap.size w _›).2.2); rintro e w' ⟨rfl, hb⟩))
      rw [← HS3.out]
      go_wp2_with fail
      go_roundw
      case rel => exact ⟨k + 1, hlt, rfl, by go_num, Lib.hid (‹_ ∧ _ ∧ Below w.heap.size w _›).2.2⟩
      case measure => simp [intOf]; omega
    · have HE : Hid (dirTo id width fr l k = dirB id width fr l) := Lib.hid (by rw [show k = l.length by omega]; exact dirTo_end _ _ _ _)
      rw [HE.out]
      go_wp2_with fail
      go_ret
      exact ⟨rfl, HBW.out⟩
end Go.Proofs.YtoojpfcnekpboaaGreat
