/- A directory that was read was written: plain Lean. A file that is decoded is the file of what it was decoded to: plain Lean. Bits of a string inverted: plain mathematics. Files that differ within 32 bits are not both decoded: plain Lean. -/
import Derived.Test.YtoojpfcnekpboaaMBL
import Derived.Test.YtoojpfcnekpboaaMBR
import Derived.Test.YtoojpfcnekpboaaMAA
namespace Go.Proofs.Ytoojpfcnekpboaa

theorem rNum_ok (st : RS) (h : (rNum st).2.bad = false) : st.bad = false ∧ 0 ≤ (rNum st).1 ∧ (rNum st).1 ≤ 1152921504606846976 ∧ bs st.rest = vE (rNum st).1.toNat ++ bs (rNum st).2.rest := by
  have hb := rNum_bounds st
  refine ⟨?_, hb.1, hb.2.1, ?_⟩
  · cases e : st.bad with
    | false => rfl
    | true => rw [rNum_bad st e] at h; cases h
  · unfold rNum at h ⊢
    split at h
    · cases h
    · rename_i hn
      rw [if_neg hn]
      have h0 : (rdG st.rest).2.2 = 0 := by
        by_cases h1 : (rdG st.rest).2.2 = 0
        · exact h1
        · exact absurd (.inr h1) hn
      obtain ⟨m, h1, h2, h3, h4, h5⟩ := rdG_ok st.rest _ _ (trip_eta _ h0)
      show _ = vE (rdG st.rest).1.toNat ++ bs (cutS st.rest (rdG st.rest).2.1.toNat)
      rw [cutS_bs, h1, h3, Int.toNat_natCast, Int.toNat_natCast]
      exact h5
theorem rByt_ok (n : Int) (st : RS) (hn : 0 ≤ n) (h : (rByt n st).2.bad = false) : st.bad = false ∧ n = (rByt n st).1.size ∧ bs st.rest = bs (rByt n st).1 ++ bs (rByt n st).2.rest := by
  have hb : st.bad = false := by
    cases e : st.bad with
    | false => rfl
    | true => rw [rByt_bad n st e] at h; cases h
  refine ⟨hb, ?_⟩
  unfold rByt at h ⊢
  split at h
  · cases h
  · rename_i hc
    rw [if_neg hc]
    have hle : n ≤ st.rest.size := by
      by_cases h1 : (st.rest.size : Int) < n
      · exact absurd (.inr h1) hc
      · omega
    refine ⟨?_, ?_⟩
    · show n = ((st.rest.extract 0 n.toNat).size : Int)
      rw [ByteArray.size_extract]
      omega
    · show _ = bs (st.rest.extract 0 n.toNat) ++ bs (cutS st.rest n.toNat)
      rw [bs_ext, cutS_bs, List.drop_zero, Nat.sub_zero, List.take_append_drop]
/-- What the seven readings of an item say of its bytes. -/
structure RIOk (st : RS) (r : RI) : Prop where
  bad : st.bad = false
  sig : 0 ≤ r.sig
  off : 0 ≤ r.off
  size : 0 ≤ r.size
  bytes : bs st.rest = vE r.sig.toNat ++ vE r.text.size ++ bs r.text ++ vE r.zone.size ++ bs r.zone ++ vE r.off.toNat ++ vE r.size.toNat ++ bs r.st.rest
theorem rRaw_ok (st : RS) (h : (rRaw st).st.bad = false) : RIOk st (rRaw st) := by
  obtain ⟨a, ha⟩ : ∃ a, a = rNum st := ⟨_, rfl⟩
  obtain ⟨b, hb⟩ : ∃ b, b = rNum a.2 := ⟨_, rfl⟩
  obtain ⟨t, ht⟩ : ∃ t, t = rByt b.1 b.2 := ⟨_, rfl⟩
  obtain ⟨c, hc⟩ : ∃ c, c = rNum t.2 := ⟨_, rfl⟩
  obtain ⟨z, hz⟩ : ∃ z, z = rByt c.1 c.2 := ⟨_, rfl⟩
  obtain ⟨o, ho⟩ : ∃ o, o = rNum z.2 := ⟨_, rfl⟩
  obtain ⟨q, hq⟩ : ∃ q, q = rNum o.2 := ⟨_, rfl⟩
  have e : rRaw st = ⟨a.1, t.1, z.1, o.1, q.1, q.2⟩ := by
    unfold rRaw
    simp only [← ha, ← hb, ← ht, ← hc, ← hz, ← ho, ← hq]
  rw [e] at h ⊢
  have kq := rNum_ok o.2 (by rw [← hq]; exact h)
  have ko := rNum_ok z.2 (by rw [← ho]; exact kq.1)
  have b1 := (rNum_bounds t.2).1
  have kz := rByt_ok c.1 c.2 (by rw [hc]; exact b1) (by rw [← hz]; exact ko.1)
  have kc := rNum_ok t.2 (by rw [← hc]; exact kz.1)
  have b2 := (rNum_bounds a.2).1
  have kt := rByt_ok b.1 b.2 (by rw [hb]; exact b2) (by rw [← ht]; exact kc.1)
  have kb := rNum_ok a.2 (by rw [← hb]; exact kt.1)
  have ka := rNum_ok st (by rw [← ha]; exact kb.1)
  rw [← hq] at kq
  rw [← ho] at ko
  rw [← hz] at kz
  rw [← hc] at kc
  rw [← ht] at kt
  rw [← hb] at kb
  rw [← ha] at ka
  have n1 : b.1.toNat = t.1.size := by rw [kt.2.1, Int.toNat_natCast]
  have n2 : c.1.toNat = z.1.size := by rw [kz.2.1, Int.toNat_natCast]
  refine ⟨ka.1, ka.2.1, ko.2.1, kq.2.1, ?_⟩
  show bs st.rest = vE a.1.toNat ++ vE t.1.size ++ bs t.1 ++ vE z.1.size ++ bs z.1 ++ vE o.1.toNat ++ vE q.1.toNat ++ bs q.2.rest
  rw [ka.2.2.2, kb.2.2.2, kt.2.2, kc.2.2.2, kz.2.2, ko.2.2.2, kq.2.2.2, n1, n2]
  simp only [List.append_assoc]
theorem zD_ok (s : ByteArray) (h : (zD s).2 = 0) : ZW (zD s).1 ∧ zchk (zD s).1 = 0 ∧ bs s = zE (zD s).1 := by
  unfold zD at h ⊢
  cases e : zP s with
  | none => rw [e] at h; cases h
  | some z =>
    rw [e] at h
    simp only at h ⊢
    by_cases hz : zchk z = 0
    · have h1 := zP_ok s z e
      rw [if_pos hz]
      exact ⟨h1.1, hz, h1.2 hz⟩
    · rw [if_neg hz] at h
      cases h
/-- What is known of an item that was read. -/
structure ItOk (a : Int) (x : Itm) : Prop where
  sig : 0 ≤ x.sig
  off : x.off = a
  size : 4 ≤ x.size ∧ x.size ≤ 262148
  labs : chkL x.labs = 0
  zone : zchk x.zone = 0
  word : ZW x.zone
theorem rItm_ok (a : Int) (st : RS) (h : (rItm a st).2.bad = false) : st.bad = false ∧ ItOk a (rItm a st).1 ∧ bs st.rest = itB (rItm a st).1 ++ bs (rItm a st).2.rest := by
  unfold rItm at h ⊢
  simp only at h ⊢
  by_cases hc : (rRaw st).st.bad = true ∨ (rRaw st).off ≠ a ∨ (rRaw st).size < 4 ∨ 262148 < (rRaw st).size
  · rw [if_pos hc] at h
    cases h
  · rw [if_neg hc] at h ⊢
    have hb : (rRaw st).st.bad = false := by
      cases e : (rRaw st).st.bad with
      | false => rfl
      | true => exact absurd (.inl e) hc
    have ho : (rRaw st).off = a := by
      by_cases h1 : (rRaw st).off = a
      · exact h1
      · exact absurd (.inr (.inl h1)) hc
    have hq : 4 ≤ (rRaw st).size ∧ (rRaw st).size ≤ 262148 := by omega
    have hk := rRaw_ok st hb
    have hd := of_decide_eq_false h
    have hp : (parE (rRaw st).text).2 = 0 := by
      by_cases h1 : (parE (rRaw st).text).2 = 0
      · exact h1
      · exact absurd (.inl h1) hd
    have hz : (zD (rRaw st).zone).2 = 0 := by
      by_cases h1 : (zD (rRaw st).zone).2 = 0
      · exact h1
      · exact absurd (.inr h1) hd
    have kp := parE_ok (rRaw st).text (parE (rRaw st).text).1 (by rw [← hp])
    have kz := zD_ok (rRaw st).zone hz
    refine ⟨hk.bad, ⟨hk.sig, ho, hq, kp.2, kz.2.1, kz.1⟩, ?_⟩
    show _ = itB ⟨(rRaw st).sig, (parE (rRaw st).text).1, (zD (rRaw st).zone).1, (rRaw st).off, (rRaw st).size⟩ ++ bs (rRaw st).st.rest
    rw [hk.bytes]
    unfold itB
    simp only
    rw [← kp.1, ← kz.2.2, bs_length, bs_length]
/-- The items that were read follow each other. -/
def ItsOk : Int → List Itm → Prop
  | _, [] => True
  | a, x :: r => ItOk a x ∧ ItsOk (a + x.size) r
theorem rLoop_bad (count : Int) : ∀ (f : Nat) (a : Int) (st : RS) (acc : List Itm), st.bad = true → (rLoop count f a st acc).2.2.bad = true
  | 0, _, _, _, h => h
  | f + 1, a, st, acc, h => by
    unfold rLoop
    rw [if_neg (by rw [h]; simp)]
    exact h
theorem rLoop_ok (count : Int) : ∀ (f : Nat) (a : Int) (st : RS) (acc : List Itm), count < f + acc.length → (acc.length : Int) ≤ count → (rLoop count f a st acc).2.2.bad = false →
    ∃ l, (rLoop count f a st acc).1 = acc ++ l ∧ (rLoop count f a st acc).2.1 = a + sizes l ∧ count = acc.length + l.length ∧ st.bad = false ∧ ItsOk a l ∧ bs st.rest = l.flatMap itB ++ bs (rLoop count f a st acc).2.2.rest
  | 0, a, st, acc, hf, hc, h => by omega
  | f + 1, a, st, acc, hf, hc, h => by
    unfold rLoop at h ⊢
    by_cases hi : st.bad = false ∧ (acc.length : Int) < count
    · rw [if_pos hi] at h ⊢
      have hl : ((acc ++ [(rItm a st).1]).length : Int) = acc.length + 1 := by rw [List.length_append, List.length_singleton]; push_cast; rfl
      obtain ⟨l, h1, h2, h3, h4, h5, h6⟩ := rLoop_ok count f (a + (rItm a st).1.size) (rItm a st).2 (acc ++ [(rItm a st).1]) (by rw [hl]; push_cast at hf; omega) (by rw [hl]; omega) h
      obtain ⟨k1, k2, k3⟩ := rItm_ok a st h4
      refine ⟨(rItm a st).1 :: l, by rw [h1, List.append_assoc]; rfl, ?_, ?_, hi.1, ⟨k2, h5⟩, ?_⟩
      · rw [h2]
        unfold sizes
        rw [List.map_cons, List.sum_cons]
        omega
      · rw [List.length_cons]
        rw [hl] at h3
        push_cast
        omega
      · rw [k3, h6, List.flatMap_cons, List.append_assoc]
    · rw [if_neg hi] at h ⊢
      have hb : st.bad = false := h
      have hcc : count = acc.length := by
        by_cases h1 : (acc.length : Int) < count
        · exact absurd ⟨hb, h1⟩ hi
        · omega
      exact ⟨[], by simp, by simp [sizes], by simpa using hcc, hb, trivial, by simp⟩
theorem rBlk_ok (st : RS) (h : (rBlk st).st.bad = false) : (0 ≤ (rBlk st).id ∧ 0 ≤ (rBlk st).width ∧ 0 ≤ (rBlk st).fr) ∧ (rBlk st).total = sizes (rBlk st).items ∧ (rBlk st).items.length ≤ 4000 ∧ ItsOk 0 (rBlk st).items ∧ bs st.rest = dirB (rBlk st).id (rBlk st).width (rBlk st).fr (rBlk st).items ++ bs (rBlk st).st.rest := by
  rw [rBlk_eq] at h ⊢
  obtain ⟨m, hm⟩ : ∃ m, m = rByt 4 st := ⟨_, rfl⟩
  rw [← hm] at h ⊢
  obtain ⟨d, hd⟩ : ∃ d, d = (if m.1 = str magicB then m.2 else ⟨m.2.rest, true⟩ : RS) := ⟨_, rfl⟩
  rw [← hd] at h ⊢
  obtain ⟨⟨v1, s1⟩, e1⟩ : ∃ p, rNum d = p := ⟨_, rfl⟩
  obtain ⟨⟨v2, s2⟩, e2⟩ : ∃ p, rNum s1 = p := ⟨_, rfl⟩
  obtain ⟨⟨v3, s3⟩, e3⟩ : ∃ p, rNum s2 = p := ⟨_, rfl⟩
  obtain ⟨⟨v4, s4⟩, e4⟩ : ∃ p, rNum s3 = p := ⟨_, rfl⟩
  rw [rBlk2_eq e1 e2 e3 e4] at h ⊢
  simp only at h ⊢
  by_cases hc : 4000 < v4
  · rw [if_pos hc] at h
    rw [rLoop_bad _ _ _ _ _ rfl] at h
    cases h
  · rw [if_neg hc] at h ⊢
    have b4 := (rNum_bounds s3).1
    rw [e4] at b4
    obtain ⟨l, h1, h2, h3, h4, h5, h6⟩ := rLoop_ok v4 4001 0 s4 [] (by simp; omega) (by simpa using b4) h
    have k4 := rNum_ok s3 (by rw [e4]; exact h4)
    have k3 := rNum_ok s2 (by rw [e3]; exact k4.1)
    have k2 := rNum_ok s1 (by rw [e2]; exact k3.1)
    have k1 := rNum_ok d (by rw [e1]; exact k2.1)
    rw [e4] at k4
    rw [e3] at k3
    rw [e2] at k2
    rw [e1] at k1
    simp only at k1 k2 k3 k4
    by_cases hmm : m.1 = str magicB
    · rw [if_pos hmm] at hd
      have hdb := k1.1
      rw [hd] at hdb
      have km := rByt_ok 4 st (by decide) (by rw [← hm]; exact hdb)
      rw [← hm] at km
      rw [List.nil_append] at h1
      rw [h1]
      refine ⟨⟨k1.2.1, k2.2.1, k3.2.1⟩, by rw [h2, Int.zero_add], ?_, h5, ?_⟩
      · simp at h3
        omega
      · have hv4 : v4.toNat = l.length := by simp at h3; omega
        rw [km.2.2, hmm, bs_str, ← hd, k1.2.2.2, k2.2.2.2, k3.2.2.2, k4.2.2.2, h6, hv4]
        unfold dirB headB
        simp only [List.append_assoc]
    · rw [if_neg hmm] at hd
      have hdb := k1.1
      rw [hd] at hdb
      cases hdb
end Go.Proofs.Ytoojpfcnekpboaa

namespace Go.Proofs.Ytoojpfcnekpboaa

theorem seal_whole (s : ByteArray) (h : CR.Whole s) : bs s = sealB (bs (CR.body s)) := by
  unfold CR.Whole at h
  have ht := congrArg bs h
  rw [bs_str] at ht
  unfold sealB
  rw [← ht]
  unfold CR.body CR.tail4
  rw [bs_ext, bs_ext, List.drop_zero, Nat.sub_zero, show s.size - (s.size - 4) = ((bs s).drop (s.size - 4)).length by rw [List.length_drop, bs_length], List.take_length, List.take_append_drop]
theorem four_le32 (l : List UInt8) (h : l.length = 4) : four4 (le32 l) = l := by
  obtain ⟨a, b, c, d, rfl⟩ := len4 h
  exact le4_of a b c d
theorem fill_cchk {x y : Chk} {width : Int} (h1 : y.sig = x.sig) (h2 : y.labs = x.labs) (h3 : y.zone = x.zone) (h4 : y.data.size ≤ 262144) (h : cchk x width = 0) : cchk y width = 0 := by
  unfold cchk at h ⊢
  rw [h1, h2, h3]
  split at h
  · cases h
  rename_i c1
  rw [if_neg c1]
  split at h
  · cases h
  rename_i c2
  rw [if_neg c2]
  split at h
  · rename_i c3
    exact absurd h c3
  rename_i c3
  rw [if_neg c3]
  split at h
  · cases h
  rename_i c4
  rw [if_neg c4]
  split at h
  · rename_i c5
    exact absurd h c5
  rename_i c5
  rw [if_neg c5, if_neg (by omega)]
theorem strip_same (s : ByteArray) (x : Itm) : (some (chkOf x)).map strip = (some (fullOf s x)).map strip := by
  simp only [Option.map_some, strip, chkOf, fullOf]
theorem ccmp_of {a b u v : Chk} (h1 : a.sig = b.sig) (h2 : a.labs = b.labs) (h3 : u.sig = v.sig) (h4 : u.labs = v.labs) : ccmp a u = ccmp b v := by
  unfold ccmp
  rw [h1, h2, h3, h4]
theorem any_ccmp {u v : Chk} : ∀ {p q : Option Chk}, p.map strip = q.map strip → u.sig = v.sig → u.labs = v.labs → q.any (fun y => decide (0 ≤ ccmp y v)) = p.any (fun y => decide (0 ≤ ccmp y u))
  | none, none, _, _, _ => rfl
  | none, some b, h, _, _ => by simp at h
  | some a, none, h, _, _ => by simp at h
  | some a, some b, h, h3, h4 => by
    have e2 : strip a = strip b := Option.some.inj h
    have i1 : (strip a).sig = (strip b).sig := by rw [e2]
    have i2 : (strip a).labs = (strip b).labs := by rw [e2]
    rw [Option.any_some, Option.any_some, ccmp_of (a := a) (b := b) (show a.sig = b.sig from i1) (show a.labs = b.labs from i2) h3 h4]
set_option maxHeartbeats 1000000 in
theorem fill_from (width : Int) (s : ByteArray) : ∀ (l : List Itm) (p q : Option Chk), (∀ x ∈ l, (chD s x).size ≤ 262144) → (p.map strip = q.map strip) → bchkFrom width p (l.map chkOf) = 0 → bchkFrom width q (l.map (fullOf s)) = 0
  | [], _, _, _, _, _ => rfl
  | x :: r, p, q, hd, hpq, h => by
    rw [List.map_cons] at h ⊢
    unfold bchkFrom at h ⊢
    split at h
    · rename_i hc
      rw [if_pos (fill_cchk (x := chkOf x) (y := fullOf s x) rfl rfl rfl (hd x List.mem_cons_self) hc)]
      split at h
      · cases h
      · rename_i hp
        have e := any_ccmp (p := p) (q := q) (u := chkOf x) (v := fullOf s x) hpq rfl rfl
        rw [e, if_neg hp]
        exact fill_from width s r _ _ (fun y hy => hd y (List.mem_cons_of_mem _ hy)) (strip_same s x) h
    · rename_i hc
      exact absurd h hc
theorem itE_zero (s : ByteArray) : ∀ (l : List Itm), itE s l = 0 → ∀ x ∈ l, chE s x = 0
  | [], _, x, hx => by simp at hx
  | y :: r, h, x, hx => by
    unfold itE at h
    split at h
    · rename_i hc
      rcases List.mem_cons.1 hx with rfl | hx
      · exact hc
      · exact itE_zero s r h x hx
    · rename_i hc
      exact absurd h hc
theorem chE_zero (s : ByteArray) (x : Itm) (h : chE s x = 0) : 0 ≤ x.off ∧ 0 ≤ x.size ∧ x.off + x.size ≤ s.size ∧ CR.Whole (prtS s x.off x.size) := by
  unfold chE at h
  split at h
  · cases h
  rename_i h1
  split at h
  · cases h
  split at h
  · rename_i h3
    exact ⟨by omega, by omega, by omega, h3⟩
  · cases h
theorem prt_size (s : ByteArray) (x : Itm) (h : chE s x = 0) : ((prtS s x.off x.size).size : Int) = x.size := by
  obtain ⟨h1, h2, h3, _⟩ := chE_zero s x h
  unfold prtS
  rw [ByteArray.size_extract]
  omega
theorem chD_size (s : ByteArray) (x : Itm) (h : chE s x = 0) (h4 : 4 ≤ x.size) : ((chD s x).size : Int) + 4 = x.size := by
  have := prt_size s x h
  unfold chD
  rw [CR.body_size]
  omega
/-- The items that were read are the items of what was decoded, and its bytes. -/
theorem items_back (s : ByteArray) : ∀ (l : List Itm) (a : Int), 0 ≤ a → ItsOk a l → (∀ x ∈ l, chE s x = 0) →
    itmFrom a (l.map (fullOf s)) = l ∧ (bs s).drop a.toNat = (l.map (fullOf s)).flatMap (fun x => sealB (bs x.data)) ++ (bs s).drop (a + sizes l).toNat
  | [], a, _, _, _ => ⟨rfl, by simp [sizes]⟩
  | x :: r, a, ha, h, hc => by
    obtain ⟨h1, h2⟩ := h
    have hx := hc x List.mem_cons_self
    have hs := h1.size
    have hcs := chD_size s x hx hs.1
    obtain ⟨k1, k2, k3, k4⟩ := chE_zero s x hx
    have hp := prt_size s x hx
    obtain ⟨i1, i2⟩ := items_back s r (a + x.size) (by omega) h2 (fun y hy => hc y (List.mem_cons_of_mem _ hy))
    have ho := h1.off
    refine ⟨?_, ?_⟩
    · rw [List.map_cons]
      unfold itmFrom
      rw [show ((fullOf s x).data.size : Int) + 4 = x.size from hcs, i1]
      unfold fullOf
      simp only
      rw [← ho]
    · rw [List.map_cons, List.flatMap_cons, List.append_assoc]
      have e : (a + x.size) + sizes r = a + sizes (x :: r) := by
        unfold sizes
        rw [List.map_cons, List.sum_cons]
        omega
      rw [e] at i2
      rw [← i2]
      have hw := seal_whole _ k4
      show _ = sealB (bs (chD s x)) ++ _
      unfold chD
      rw [← hw]
      unfold prtS
      rw [bs_ext, ho, show (a + x.size).toNat - a.toNat = x.size.toNat by omega, show (a + x.size).toNat = a.toNat + x.size.toNat by omega, ← List.drop_drop, List.take_append_drop]
theorem sizes_nn : ∀ (l : List Itm) (a : Int), ItsOk a l → 0 ≤ sizes l
  | [], _, _ => by simp [sizes]
  | x :: r, a, h => by
    have h1 := h.1.size
    have h2 := sizes_nn r _ h.2
    unfold sizes at h2 ⊢
    rw [List.map_cons, List.sum_cons]
    omega
theorem its_size : ∀ (l : List Itm) (a : Int), ItsOk a l → ∀ x ∈ l, 4 ≤ x.size ∧ x.size ≤ 262148
  | [], _, _, x, hx => by simp at hx
  | y :: r, a, h, x, hx => by
    rcases List.mem_cons.1 hx with rfl | hx
    · exact h.1.size
    · exact its_size r _ h.2 x hx
theorem opE_zero (s : ByteArray) (h : opE s = 0) : 8 ≤ s.size ∧ CR.Whole (endS s) ∧ 4 ≤ szS s ∧ szS s ≤ s.size - 8 ∧ CR.Whole (dirS s) ∧ (opR s).st.bad = false ∧ (opR s).st.rest.size = 0 ∧ (opR s).total = ((s.size - 8 - szS s : Nat) : Int) ∧ bchk (opR s).blk = 0 := by
  unfold opE at h
  split at h
  · cases h
  rename_i h1
  split at h
  · rename_i h2
    split at h
    · cases h
    rename_i h3
    split at h
    · rename_i h4
      split at h
      · cases h
      rename_i h5
      refine ⟨by omega, h2, by omega, by omega, h4, ?_, ?_, ?_, ?_⟩
      · cases e : (opR s).st.bad with
        | false => rfl
        | true => exact absurd (.inl e) h5
      · by_cases e : (opR s).st.rest.size = 0
        · exact e
        · exact absurd (.inr (.inl e)) h5
      · by_cases e : (opR s).total = ((s.size - 8 - szS s : Nat) : Int)
        · exact e
        · exact absurd (.inr (.inr (.inl e))) h5
      · by_cases e : bchk (opR s).blk = 0
        · exact e
        · exact absurd (.inr (.inr (.inr e))) h5
    · cases h
  · cases h
set_option maxHeartbeats 1000000 in
/-- WHAT IS DECODED IS VALID, AND ITS FILE IS THE TEXT. -/
theorem dec_back (s : ByteArray) (h : decE s = 0) : bchk (decR s) = 0 ∧ fileB (decR s) = bs s := by
  have ho : opE s = 0 := by
    unfold decE at h
    split at h
    · rename_i h1
      exact h1
    · rename_i h1
      exact absurd h h1
  have hi : itE s (opR s).items = 0 := by
    unfold decE at h
    rw [if_pos ho] at h
    exact h
  obtain ⟨o1, o2, o3, o4, o5, o6, o7, o8, o9⟩ := opE_zero s ho
  have hc := itE_zero s _ hi
  rw [decR_good s h]
  obtain ⟨R, hR⟩ : ∃ R, R = rBlk ⟨CR.body (dirS s), false⟩ := ⟨_, rfl⟩
  have eR : opR s = R := by rw [hR]; rfl
  rw [eR] at o6 o7 o8 o9 hc ⊢
  have hk := rBlk_ok ⟨CR.body (dirS s), false⟩ (by rw [← hR]; exact o6)
  rw [← hR] at hk
  obtain ⟨r1, r2, r3, r4, r5⟩ := hk
  simp only at r5
  have hr0 : bs R.st.rest = [] := List.length_eq_zero_iff.1 (by rw [bs_length]; exact o7)
  rw [hr0, List.append_nil] at r5
  clear hi eR
  obtain ⟨i1, i2⟩ := items_back s R.items 0 (Int.le_refl 0) r4 hc
  have hds : (dirS s).size = szS s := by
    unfold dirS
    rw [ByteArray.size_extract]
    omega
  have hes := endS_size (s := s) (by omega)
  refine ⟨?_, ?_⟩
  · have hb := o9
    have hsz : ∀ x ∈ R.items, (chD s x).size ≤ 262144 := fun x hx => by
      have h1 := its_size _ _ r4 x hx
      have h2 := chD_size s x (hc x hx) h1.1
      omega
    unfold RB.blk bchk at hb
    unfold bchk
    simp only [List.length_map] at hb ⊢
    split at hb
    · cases hb
    rename_i b1
    rw [if_neg b1]
    split at hb
    · cases hb
    rename_i b2
    rw [if_neg b2]
    split at hb
    · cases hb
    rename_i b3
    rw [if_neg b3]
    split at hb
    · cases hb
    rename_i b4
    rw [if_neg b4]
    exact fill_from _ s _ none none hsz rfl hb
  · have hbd : bdir ⟨R.id, R.width, R.fr, R.items.map (fullOf s)⟩ = bs (CR.body (dirS s)) := by
      unfold bdir
      simp only
      rw [i1, r5]
    have hsd := seal_whole (dirS s) o5
    have hse := seal_whole (endS s) o2
    have hfo : four4 (szS s) = bs (CR.body (endS s)) := four_le32 _ (by rw [bs_length, CR.body_size]; omega)
    unfold fileB
    rw [hbd, ← hsd]
    have hl : ((bs (dirS s)).length : Int) = (szS s : Int) := by rw [bs_length, hds]
    rw [hl, hfo, ← hse]
    have hdat : datB ⟨R.id, R.width, R.fr, R.items.map (fullOf s)⟩ = (bs s).take (s.size - 8 - szS s) := by
      unfold datB
      simp only
      rw [Int.zero_add, ← r2, o8, Int.toNat_natCast] at i2
      have i3 : bs s = (R.items.map (fullOf s)).flatMap (fun x => sealB (bs x.data)) ++ (bs s).drop (s.size - 8 - szS s) := i2
      have i4 := List.take_append_drop (s.size - 8 - szS s) (bs s)
      exact List.append_cancel_right (i3.symm.trans i4.symm)
    rw [hdat]
    unfold dirS endS
    rw [bs_ext, cutS_bs, show s.size - 8 - (s.size - 8 - szS s) = szS s by omega]
    have k1 : ((bs s).drop (s.size - 8 - szS s)).drop (szS s) = (bs s).drop (s.size - 8) := by rw [List.drop_drop, show s.size - 8 - szS s + szS s = s.size - 8 by omega]
    rw [← k1, List.append_assoc, List.take_append_drop, List.take_append_drop]
end Go.Proofs.Ytoojpfcnekpboaa

namespace Go.Proofs.Ytoojpfcnekpboaa.Crc

/-- One bit of a string inverted. -/
def flip (l : List UInt8) (k : Nat) : List UInt8 := l.set (k / 8) (l.getD (k / 8) 0 ^^^ (1 : UInt8) <<< UInt8.ofNat (k % 8))
theorem flip_length (l : List UInt8) (k : Nat) : (flip l k).length = l.length := by simp [flip]

/-- The bit at a place. -/
def bitAt (l : List UInt8) (k : Nat) : Bool := (l.getD (k / 8) 0).toNat.testBit (k % 8)

theorem lo_get (j m q : Nat) (h : q < (lo j m).length) : (lo j m)[q] = m.testBit q := by
  induction j generalizing m q with
  | zero => simp [lo] at h
  | succ j ih =>
    rcases q with _ | q
    · simp [lo, Nat.testBit_zero]
      rcases Nat.mod_two_eq_zero_or_one m with h | h <;> simp [h]
    · simp only [lo, List.getElem_cons_succ]
      rw [ih, Nat.testBit_succ]
theorem bitsOf_get (s : List UInt8) (k : Nat) (h : k < (bitsOf s).length) : (bitsOf s)[k] = bitAt s k := by
  induction s generalizing k with
  | nil => simp [bitsOf] at h
  | cons c s ih =>
    have e : bitsOf (c :: s) = lo 8 c.toNat ++ bitsOf s := by simp [bitsOf]
    rw [List.getElem_of_eq e h]
    by_cases h8 : k < 8
    · rw [List.getElem_append_left (by rw [lo_length]; exact h8), lo_get]
      unfold bitAt
      rw [Nat.div_eq_of_lt h8, Nat.mod_eq_of_lt h8]; rfl
    · have e1 : k / 8 = (k - 8) / 8 + 1 := by omega
      have e2 : k % 8 = (k - 8) % 8 := by omega
      rw [List.getElem_append_right (by rw [lo_length]; omega)]
      simp only [lo_length]
      rw [ih]
      unfold bitAt
      rw [e1, e2]; rfl

theorem one_shl (r : Nat) (h : r < 8) (q : Nat) : ((1 : UInt8) <<< UInt8.ofNat r).toNat.testBit q = decide (q = r) := by
  have e : ((1 : UInt8) <<< UInt8.ofNat r).toNat = 2 ^ r := by
    rcases r with _ | _ | _ | _ | _ | _ | _ | _ | r <;> first | rfl | omega
  rw [e, Nat.testBit_two_pow]
  exact decide_eq_decide.2 eq_comm
theorem flip_bit (l : List UInt8) (k q : Nat) (hk : k < 8 * l.length) : bitAt (flip l k) q = (bitAt l q ^^ decide (q = k)) := by
  unfold bitAt flip
  by_cases e : k / 8 = q / 8
  · rw [e]
    have hq : q / 8 < l.length := by omega
    rw [List.getD_eq_getElem?_getD, List.getElem?_set_self (by exact hq), Option.getD_some, UInt8.toNat_xor, Nat.testBit_xor, one_shl _ (by omega)]
    congr 1
    exact decide_eq_decide.2 (by omega)
  · rw [List.getD_eq_getElem?_getD, List.getElem?_set_ne e]
    have : decide (q = k) = false := by rw [decide_eq_false_iff_not]; intro h; exact e (by rw [h])
    rw [this]; simp

/-- Two strings whose bits differ as told. -/
theorem bits_diff (l m : List UInt8) (d : List Bool) (hl : m.length = l.length) (hd : d.length = 8 * l.length) (h : ∀ k (hk : k < d.length), bitAt m k = (bitAt l k ^^ d[k])) :
    bitsOf m = List.zipWith (· ^^ ·) (bitsOf l) d := by
  apply List.ext_getElem
  · rw [List.length_zipWith, bitsOf_length, bitsOf_length, hl, hd, Nat.min_self]
  · intro k h1 h2
    rw [bitsOf_get, List.getElem_zipWith, bitsOf_get]
    exact h k _
theorem differ_feed (l m : List UInt8) (d : List Bool) (hd : d.length = 8 * l.length) (h : bitsOf m = List.zipWith (· ^^ ·) (bitsOf l) d) (h0 : fb 0#32 d ≠ 0#32) (r : BitVec 32) : feed r m ≠ feed r l := by
  intro e
  rw [feed_bits, feed_bits, h, fb_reg0 _ _ _ (by rw [bitsOf_length, hd])] at e
  have := congrArg (fb r (bitsOf l) ^^^ ·) e
  simp only [← BitVec.xor_assoc, BitVec.xor_self, BitVec.zero_xor] at this
  exact h0 this

/-- The first i of 32 bits of a mask inverted, from a bit on. -/
def burstTo (l : List UInt8) (mask bit : Nat) : Nat → List UInt8
  | 0 => l
  | i + 1 => if mask.testBit i then flip (burstTo l mask bit i) (bit + i) else burstTo l mask bit i
theorem burstTo_length (l : List UInt8) (mask bit i : Nat) : (burstTo l mask bit i).length = l.length := by
  induction i with
  | zero => rfl
  | succ i ih => rw [burstTo]; split <;> simp [flip_length, ih]
/-- All of the first i bits have room. -/
def Room (n mask bit i : Nat) : Prop := ∀ j, j < i → mask.testBit j = true → bit + j < 8 * n
theorem Room.zero (n mask bit : Nat) : Room n mask bit 0 := fun j h => by omega
theorem Room.no {n mask bit i : Nat} (h : Room n mask bit i) (hb : mask.testBit i = false) : Room n mask bit (i + 1) := fun j hj ht => by
  by_cases e : j = i
  · subst e; rw [hb] at ht; cases ht
  · exact h j (by omega) ht
theorem Room.yes {n mask bit i : Nat} (h : Room n mask bit i) (hr : bit + i < 8 * n) : Room n mask bit (i + 1) := fun j hj ht => by
  by_cases e : j = i
  · subst e; exact hr
  · exact h j (by omega) ht
theorem burstTo_bit (l : List UInt8) (mask bit i q : Nat) (h : Room l.length mask bit i) : bitAt (burstTo l mask bit i) q = (bitAt l q ^^ (decide (bit ≤ q ∧ q < bit + i) && mask.testBit (q - bit))) := by
  induction i with
  | zero =>
    have : decide (bit ≤ q ∧ q < bit + 0) = false := by rw [decide_eq_false_iff_not]; omega
    rw [this]; simp [burstTo]
  | succ i ih =>
    have ih := ih (fun j hj ht => h j (by omega) ht)
    rw [burstTo]
    by_cases e : q = bit + i
    · have e1 : decide (bit ≤ q ∧ q < bit + i) = false := by rw [decide_eq_false_iff_not]; omega
      have e2 : decide (bit ≤ q ∧ q < bit + (i + 1)) = true := by rw [decide_eq_true_iff]; omega
      have e3 : q - bit = i := by omega
      rw [e1] at ih
      rw [e2, e3]
      split
      · rename_i ht
        rw [flip_bit _ _ _ (by rw [burstTo_length]; exact h i (by omega) ht), ih, ht, e]; simp
      · rename_i ht
        have : mask.testBit i = false := by simpa using ht
        rw [ih, this]; simp
    · have e1 : decide (bit ≤ q ∧ q < bit + i) = decide (bit ≤ q ∧ q < bit + (i + 1)) := decide_eq_decide.2 (by omega)
      rw [← e1]
      split
      · rename_i ht
        rw [flip_bit _ _ _ (by rw [burstTo_length]; exact h i (by omega) ht), ih]
        simp [e]
      · exact ih
/-- A burst changes what is fed. -/
theorem burst_feed (l : List UInt8) (mask bit : Nat) (hm : mask < 2 ^ 32) (h0 : mask ≠ 0) (h : Room l.length mask bit 32) (r : BitVec 32) : feed r (burstTo l mask bit 32) ≠ feed r l := by
  -- where the bits that differ begin there is room for one of them at least
  have hb : bit < 8 * l.length := by
    rcases Nat.lt_or_ge bit (8 * l.length) with h1 | h1
    · exact h1
    · exfalso
      apply h0
      apply Nat.eq_of_testBit_eq
      intro j
      rw [Nat.zero_testBit]
      rcases ht : mask.testBit j
      · rfl
      · by_cases hj : j < 32
        · have := h j hj ht; omega
        · rw [Nat.testBit_lt_two_pow (Nat.lt_of_lt_of_le hm (Nat.pow_le_pow_right (by decide) (by omega)))] at ht
          cases ht
  obtain ⟨j, hj⟩ : ∃ j, j = min 32 (8 * l.length - bit) := ⟨_, rfl⟩
  have hmj : mask < 2 ^ j := by
    apply Nat.lt_pow_two_of_testBit
    intro i hi
    rcases ht : mask.testBit i
    · rfl
    · exfalso
      by_cases h32 : i < 32
      · have := h i h32 ht; omega
      · rw [Nat.testBit_lt_two_pow (Nat.lt_of_lt_of_le hm (Nat.pow_le_pow_right (by decide) (by omega)))] at ht
        cases ht
  refine differ_feed l _ (List.replicate bit false ++ (lo j mask ++ List.replicate (8 * l.length - bit - j) false)) ?_ (bits_diff _ _ _ (burstTo_length _ _ _ _) ?_ ?_) (fb_burst bit j _ mask hmj (by omega) h0) r
  · simp [lo_length]; omega
  · simp [lo_length]; omega
  · intro k hk
    rw [burstTo_bit _ _ _ _ _ h]
    congr 1
    simp only [List.getElem_append, List.length_replicate, lo_length, List.getElem_replicate, lo_get]
    have hk2 : k < 8 * l.length := by simp [lo_length] at hk; omega
    by_cases c1 : k < bit
    · rw [dif_pos c1]; simp; omega
    · rw [dif_neg c1]
      by_cases c2 : k - bit < j
      · rw [dif_pos c2]; simp; omega
      · rw [dif_neg c2]; simp; omega

/-! ### Parity -/
theorem parity_append (l m : List Bool) : parity (l ++ m) = (parity l ^^ parity m) := by
  unfold parity
  rw [List.foldl_append, foldl_xor]; rfl
theorem parity_zip (l d : List Bool) (h : d.length = l.length) : parity (List.zipWith (· ^^ ·) l d) = (parity l ^^ parity d) := by
  induction l generalizing d with
  | nil => 
    have : d = [] := List.eq_nil_of_length_eq_zero h
    subst this; rfl
  | cons a l ih =>
    rcases d with _ | ⟨b, d⟩
    · simp at h
    · rw [List.zipWith_cons_cons, parity_cons, parity_cons, parity_cons, ih d (by simpa using h)]
      cases a <;> cases b <;> cases parity l <;> cases parity d <;> rfl
theorem parity_false (n : Nat) : parity (List.replicate n false) = false := by
  induction n with
  | zero => rfl
  | succ n ih => rw [List.replicate_succ, parity_cons, ih]; rfl
theorem parity_flip (l : List UInt8) (k : Nat) (hk : k < 8 * l.length) : parity (bitsOf (flip l k)) = !parity (bitsOf l) := by
  have h := bits_diff l (flip l k) (List.replicate k false ++ (true :: List.replicate (8 * l.length - k - 1) false)) (flip_length l k) (by simp; omega) (fun q hq => by
    rw [flip_bit l k q hk]
    congr 1
    simp only [List.getElem_append, List.length_replicate, List.getElem_replicate, List.getElem_cons]
    by_cases c1 : q < k
    · rw [dif_pos c1]; simp; omega
    · rw [dif_neg c1]
      by_cases c2 : q - k = 0
      · rw [dif_pos c2]; simp; omega
      · rw [dif_neg c2]; simp; omega)
  rw [h, parity_zip _ _ (by simp [bitsOf_length]; omega), parity_append, parity_cons, parity_false, parity_false]
  cases parity (bitsOf l) <;> rfl
/-- A string whose bits have another parity comes to another register. -/
theorem parity_feed (l m : List UInt8) (h : parity (bitsOf m) = !parity (bitsOf l)) (r : BitVec 32) : feed r m ≠ feed r l := by
  intro e
  rw [feed_bits, feed_bits] at e
  have h2 := congrArg (par 32) e
  rw [par_fb, par_fb, h] at h2
  cases par 32 r <;> cases parity (bitsOf l) <;> simp at h2
end Go.Proofs.Ytoojpfcnekpboaa.Crc

namespace Go.Proofs.Ytoojpfcnekpboaa.Crc

/-- Two lists of one length whose bits differ within 32 places alone. -/
def Near (l m : List UInt8) : Prop := m.length = l.length ∧ ∃ p, ∀ q, bitAt l q ≠ bitAt m q → p ≤ q ∧ q < p + 32
def maskOf : (Nat → Bool) → Nat → Nat
  | _, 0 => 0
  | f, n + 1 => (f 0).toNat + 2 * maskOf (fun i => f (i + 1)) n
theorem mask_half (b : Bool) (x : Nat) : (b.toNat + 2 * x) / 2 = x := by cases b <;> simp <;> omega
theorem maskOf_bit : ∀ (n : Nat) (f : Nat → Bool) (i : Nat), (maskOf f n).testBit i = (decide (i < n) && f i)
  | 0, f, i => by simp [maskOf]
  | n + 1, f, 0 => by
    unfold maskOf
    rw [Nat.testBit_zero]
    cases f 0 <;> simp <;> omega
  | n + 1, f, i + 1 => by
    unfold maskOf
    rw [Nat.testBit_succ, mask_half, maskOf_bit n]
    simp
theorem maskOf_lt : ∀ (n : Nat) (f : Nat → Bool), maskOf f n < 2 ^ n
  | 0, f => by simp [maskOf]
  | n + 1, f => by
    have h := maskOf_lt n (fun i => f (i + 1))
    have hb : (f 0).toNat ≤ 1 := by cases f 0 <;> simp
    unfold maskOf
    rw [Nat.pow_succ]
    omega
theorem bitAt_out (l : List UInt8) (q : Nat) (h : 8 * l.length ≤ q) : bitAt l q = false := by
  unfold bitAt
  rw [List.getD_eq_getElem?_getD, List.getElem?_eq_none (by omega), Option.getD_none]
  exact Nat.zero_testBit _
theorem ext_bits {l m : List UInt8} (hl : m.length = l.length) (h : ∀ q, bitAt l q = bitAt m q) : l = m := by
  refine List.ext_getElem hl.symm fun i h1 h2 => ?_
  apply UInt8.toNat_inj.1
  apply Nat.eq_of_testBit_eq
  intro j
  by_cases hj : j < 8
  · have h3 := h (8 * i + j)
    unfold bitAt at h3
    rw [show (8 * i + j) / 8 = i by omega, show (8 * i + j) % 8 = j by omega, List.getD_eq_getElem?_getD, List.getD_eq_getElem?_getD, List.getElem?_eq_getElem h1, List.getElem?_eq_getElem h2] at h3
    exact h3
  · have p8 : 2 ^ 8 ≤ 2 ^ j := Nat.pow_le_pow_right (by decide) (by omega)
    have e1 := (l[i]).toNat_lt
    have e2 := (m[i]).toNat_lt
    rw [Nat.testBit_lt_two_pow (by omega), Nat.testBit_lt_two_pow (by omega)]
theorem near_feed {l m : List UInt8} (hn : Near l m) (r : BitVec 32) (h : feed r m = feed r l) : m = l := by
  obtain ⟨hl, p, hp⟩ := hn
  have hb := maskOf_bit 32 (fun i => bitAt l (p + i) ^^ bitAt m (p + i))
  have hlt := maskOf_lt 32 (fun i => bitAt l (p + i) ^^ bitAt m (p + i))
  generalize maskOf (fun i => bitAt l (p + i) ^^ bitAt m (p + i)) 32 = k at *
  have hr : Room l.length k p 32 := fun j _ hj => by
    rw [hb] at hj
    by_cases hx : p + j < 8 * l.length
    · exact hx
    · rw [bitAt_out l (p + j) (by omega), bitAt_out m (p + j) (by omega)] at hj
      simp at hj
  have hm : burstTo l k p 32 = m := by
    refine ext_bits (by rw [burstTo_length, hl]) fun q => ?_
    rw [burstTo_bit _ _ _ _ _ hr, hb]
    by_cases hq : p ≤ q ∧ q < p + 32
    · rw [decide_eq_true hq, decide_eq_true (by omega : q - p < 32), show p + (q - p) = q by omega]
      cases bitAt l q <;> cases bitAt m q <;> rfl
    · rw [decide_eq_false hq]
      by_cases he : bitAt l q = bitAt m q
      · rw [he]
        simp
      · exact absurd (hp q he) hq
  by_cases h0 : k = 0
  · have e : ∀ q, bitAt m q = bitAt l q := fun q => by
      rw [← hm, burstTo_bit _ _ _ _ _ hr, h0, Nat.zero_testBit]
      simp
    exact ext_bits hl.symm e
  · exfalso
    refine burst_feed l k p hlt h0 hr r ?_
    rw [hm]
    exact h
theorem Near.drop {l m : List UInt8} (h : Near l m) (a : Nat) : Near (l.drop a) (m.drop a) := by
  obtain ⟨hl, p, hp⟩ := h
  have hb : ∀ (x : List UInt8) (q : Nat), bitAt (x.drop a) q = bitAt x (q + 8 * a) := fun x q => by
    unfold bitAt
    rw [show (q + 8 * a) / 8 = a + q / 8 by omega, show (q + 8 * a) % 8 = q % 8 by omega, List.getD_eq_getElem?_getD, List.getD_eq_getElem?_getD, List.getElem?_drop]
  refine ⟨by rw [List.length_drop, List.length_drop, hl], p - 8 * a, fun q hq => ?_⟩
  rw [hb, hb] at hq
  have := hp _ hq
  omega
theorem Near.take {l m : List UInt8} (h : Near l m) (a : Nat) : Near (l.take a) (m.take a) := by
  obtain ⟨hl, p, hp⟩ := h
  have hb : ∀ (x : List UInt8) (q : Nat), bitAt (x.take a) q = if q / 8 < a then bitAt x q else false := fun x q => by
    unfold bitAt
    rw [List.getD_eq_getElem?_getD, List.getD_eq_getElem?_getD, List.getElem?_take]
    split
    · rfl
    · exact Nat.zero_testBit _
  refine ⟨by rw [List.length_take, List.length_take, hl], p, fun q hq => ?_⟩
  rw [hb, hb] at hq
  split at hq
  · exact hp q hq
  · exact absurd rfl hq

/-- What the law does to a file: the first i bits of a mask, as far as there is room. -/
def dmgTo (l : List UInt8) (mask bit : Nat) : Nat → List UInt8
  | 0 => l
  | i + 1 => if mask.testBit i = true ∧ (bit + i) / 8 < l.length then flip (dmgTo l mask bit i) (bit + i) else dmgTo l mask bit i
theorem dmgTo_length (l : List UInt8) (mask bit i : Nat) : (dmgTo l mask bit i).length = l.length := by
  induction i with
  | zero => rfl
  | succ i ih => rw [dmgTo]; split <;> simp [flip_length, ih]
theorem dmgTo_bit (l : List UInt8) (mask bit i q : Nat) (h : bitAt l q ≠ bitAt (dmgTo l mask bit i) q) : bit ≤ q ∧ q < bit + i := by
  induction i with
  | zero => exact absurd rfl h
  | succ i ih =>
    rw [dmgTo] at h
    split at h
    · rename_i hc
      rw [flip_bit _ _ _ (by rw [dmgTo_length]; omega)] at h
      by_cases e : q = bit + i
      · omega
      · rw [decide_eq_false e, Bool.xor_false] at h
        have := ih h
        omega
    · have := ih h
      omega
theorem dmg_near (l : List UInt8) (mask bit : Nat) : Near l (dmgTo l mask bit 32) := ⟨dmgTo_length _ _ _ _, bit, fun _ h => dmgTo_bit _ _ _ _ _ h⟩
end Go.Proofs.Ytoojpfcnekpboaa.Crc
namespace Go.Proofs.Ytoojpfcnekpboaa
open Crc (Near)

theorem whole_near {a b : ByteArray} (ha : CR.Whole a) (hb : CR.Whole b) (h : Near (bs a) (bs b)) : b = a := by
  have h1 := seal_whole a ha
  have h2 := seal_whole b hb
  refine bs_inj (Crc.near_feed h (~~~ 0#32) ?_)
  rw [h1, h2]
  unfold sealB
  rw [Crc.seal_good, Crc.seal_good]
theorem near_ext {s t : ByteArray} (h : Near (bs s) (bs t)) (a b : Nat) : Near (bs (s.extract a b)) (bs (t.extract a b)) := by
  rw [bs_ext, bs_ext]
  exact (h.drop a).take (b - a)
/-- OF FILES THAT DIFFER WITHIN 32 BITS ONE ALONE IS DECODED. -/
theorem near_dec (s t : ByteArray) (hn : Near (bs s) (bs t)) (h : decE s = 0) (h' : decE t = 0) : t = s := by
  have hz : t.size = s.size := by have := hn.1; rw [bs_length, bs_length] at this; exact this
  have hE : ∀ x : ByteArray, decE x = 0 → opE x = 0 ∧ itE x (opR x).items = 0 := fun x hx => by
    unfold decE at hx
    split at hx
    · rename_i h1
      exact ⟨h1, hx⟩
    · rename_i h1
      exact absurd hx h1
  obtain ⟨o1, i1⟩ := hE s h
  obtain ⟨o2, i2⟩ := hE t h'
  obtain ⟨_, e1, _, _, d1, _⟩ := opE_zero s o1
  obtain ⟨_, e2, _, _, d2, _⟩ := opE_zero t o2
  have he : endS t = endS s := whole_near e1 e2 (by
    unfold endS
    rw [cutS_bs, cutS_bs, hz]
    exact hn.drop _)
  have hs : szS t = szS s := by unfold szS; rw [he]
  have hd : dirS t = dirS s := whole_near d1 d2 (by
    unfold dirS
    rw [hs, hz]
    exact near_ext hn _ _)
  have hR : opR t = opR s := by unfold opR; rw [hd]
  have c1 := itE_zero s _ i1
  have c2 := itE_zero t _ i2
  rw [hR] at c2
  have hf : ∀ x ∈ (opR s).items, fullOf t x = fullOf s x := fun x hx => by
    have w1 := (chE_zero s x (c1 x hx)).2.2.2
    have w2 := (chE_zero t x (c2 x hx)).2.2.2
    have hp : prtS t x.off x.size = prtS s x.off x.size := whole_near w1 w2 (by unfold prtS; exact near_ext hn _ _)
    unfold fullOf chD
    rw [hp]
  have hr : decR t = decR s := by
    rw [decR_good s h, decR_good t h', hR, List.map_congr_left hf]
  refine bs_inj ?_
  rw [← (dec_back t h').2, ← (dec_back s h).2, hr]
end Go.Proofs.Ytoojpfcnekpboaa
