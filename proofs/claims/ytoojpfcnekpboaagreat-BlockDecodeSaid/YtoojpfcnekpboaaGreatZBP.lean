/- A file that was written is decoded: plain Lean. The file of a block is decoded to the block: plain Lean. The file of a block is decoded to the block: plain Lean (the file). -/
import Derived.Test.YtoojpfcnekpboaaGreatZBO
namespace Go.Proofs.YtoojpfcnekpboaaGreat

theorem rNum_vE (s : ByteArray) (n : Nat) (t : List UInt8) (hn : n ≤ 1152921504606846976) (h : bs s = vE n ++ t) : ∃ s', rNum ⟨s, false⟩ = ((n : Int), ⟨s', false⟩) ∧ bs s' = t := by
  have h1 := rdG_vE s n t hn h
  refine ⟨cutS s (vE n).length, ?_, by rw [cutS_bs, h, List.drop_left]⟩
  unfold rNum
  simp only [h1]
  rw [if_neg (by simp)]
  rfl
theorem rByt_app (s : ByteArray) (p t : List UInt8) (h : bs s = p ++ t) : ∃ s', rByt (p.length : Int) ⟨s, false⟩ = (str p, ⟨s', false⟩) ∧ bs s' = t := by
  have hl := congrArg List.length h
  rw [bs_length, List.length_append] at hl
  refine ⟨cutS s p.length, ?_, by rw [cutS_bs, h, List.drop_left]⟩
  unfold rByt
  rw [if_neg (by simp; omega)]
  simp only [Int.toNat_natCast]
  congr 1
  refine bs_inj ?_
  rw [bs_ext, List.drop_zero, Nat.sub_zero, h, List.take_left, bs_str]
/-- Numbers that can be written. -/
structure ItF (x : Itm) : Prop where
  s0 : 0 ≤ x.sig
  s1 : x.sig ≤ 1152921504606846976
  o0 : 0 ≤ x.off
  o1 : x.off ≤ 1152921504606846976
  q0 : 4 ≤ x.size
  q1 : x.size ≤ 262148
  lb : chkL x.labs = 0
  zn : zchk x.zone = 0
  zw : ZW x.zone
  fl : (fmtL x.labs).length ≤ 1152921504606846976
theorem rRaw_itB (x : Itm) (hx : ItF x) (s : ByteArray) (t : List UInt8) (h : bs s = itB x ++ t) : ∃ s', rRaw ⟨s, false⟩ = ⟨x.sig, str (fmtL x.labs), str (zE x.zone), x.off, x.size, ⟨s', false⟩⟩ ∧ bs s' = t := by
  have hs0 := hx.s0; have hs1 := hx.s1; have ho0 := hx.o0; have ho1 := hx.o1; have hq0 := hx.q0; have hq1 := hx.q1
  unfold itB at h
  simp only [List.append_assoc] at h
  obtain ⟨a1, e1, h1⟩ := rNum_vE s x.sig.toNat _ (by omega) h
  obtain ⟨a2, e2, h2⟩ := rNum_vE a1 _ _ hx.fl h1
  obtain ⟨a3, e3, h3⟩ := rByt_app a2 _ _ h2
  obtain ⟨a4, e4, h4⟩ := rNum_vE a3 _ _ (by have := zE_len x.zone; omega) h3
  obtain ⟨a5, e5, h5⟩ := rByt_app a4 _ _ h4
  obtain ⟨a6, e6, h6⟩ := rNum_vE a5 x.off.toNat _ (by omega) h5
  obtain ⟨a7, e7, h7⟩ := rNum_vE a6 x.size.toNat _ (by omega) h6
  refine ⟨a7, ?_, h7⟩
  unfold rRaw
  simp only [e1, e2, e3, e4, e5, e6, e7]
  rw [show ((x.sig.toNat : Nat) : Int) = x.sig by omega, show ((x.off.toNat : Nat) : Int) = x.off by omega, show ((x.size.toNat : Nat) : Int) = x.size by omega]
theorem zD_zE (z : Zn) (h : zchk z = 0) (hw : ZW z) : zD (str (zE z)) = (z, 0) := by
  unfold zD
  rw [zP_zE (str (zE z)) z rfl h hw]
  simp only [if_pos h]
theorem rItm_itB (x : Itm) (hx : ItF x) (s : ByteArray) (t : List UInt8) (h : bs s = itB x ++ t) : ∃ s', rItm x.off ⟨s, false⟩ = (x, ⟨s', false⟩) ∧ bs s' = t := by
  obtain ⟨s', e, h1⟩ := rRaw_itB x hx s t h
  refine ⟨s', ?_, h1⟩
  have hq0 := hx.q0; have hq1 := hx.q1
  have hp := parE_fmt (str (fmtL x.labs)) x.labs rfl hx.lb
  have hz := zD_zE x.zone hx.zn hx.zw
  unfold rItm
  simp only [e]
  rw [if_neg (by simp; omega)]
  simp [hp, hz]
/-- Each item begins where the one before ends. -/
def ChainI : Int → List Itm → Prop
  | _, [] => True
  | a, x :: r => x.off = a ∧ ChainI (a + x.size) r
def sizes (l : List Itm) : Int := (l.map (·.size)).sum
theorem rLoop_itms (count : Int) : ∀ (l : List Itm) (f : Nat) (a : Int) (s : ByteArray) (t : List UInt8) (acc : List Itm), (∀ x ∈ l, ItF x) → ChainI a l → bs s = l.flatMap itB ++ t → count = (acc.length : Int) + l.length → l.length < f →
    ∃ s', rLoop count f a ⟨s, false⟩ acc = (acc ++ l, a + sizes l, ⟨s', false⟩) ∧ bs s' = t
  | [], f, a, s, t, acc, _, _, h, hc, hf => by
    obtain ⟨f, rfl⟩ : ∃ g, f = g + 1 := ⟨f - 1, by simp at hf; omega⟩
    refine ⟨s, ?_, by simpa using h⟩
    unfold rLoop
    rw [if_neg (by simp at hc; simp; omega)]
    simp [sizes]
  | x :: r, f, a, s, t, acc, hx, hch, h, hc, hf => by
    obtain ⟨f, rfl⟩ : ∃ g, f = g + 1 := ⟨f - 1, by simp at hf; omega⟩
    rw [List.flatMap_cons, List.append_assoc] at h
    obtain ⟨h1, h2⟩ := hch
    obtain ⟨s1, e1, h3⟩ := rItm_itB x (hx x List.mem_cons_self) s _ h
    rw [h1] at e1
    obtain ⟨s2, e2, h4⟩ := rLoop_itms count r f (a + x.size) s1 t (acc ++ [x]) (fun y hy => hx y (List.mem_cons_of_mem _ hy)) h2 h3 (by rw [List.length_append]; simp at hc ⊢; omega) (by simp at hf; omega)
    refine ⟨s2, ?_, h4⟩
    unfold rLoop
    rw [if_pos ⟨rfl, by simp at hc; omega⟩, e1, e2]
    simp [sizes, Int.add_assoc]
theorem rBlk_dir (s : ByteArray) (id width fr : Int) (l : List Itm) (h0 : 0 ≤ id ∧ id ≤ 1152921504606846976) (h1 : 0 ≤ width ∧ width ≤ 1152921504606846976) (h2 : 0 ≤ fr ∧ fr ≤ 1152921504606846976) (hl : l.length ≤ 4000) (hx : ∀ x ∈ l, ItF x) (hch : ChainI 0 l) (h : bs s = dirB id width fr l) :
    ∃ s', rBlk ⟨s, false⟩ = ⟨id, width, fr, l, sizes l, ⟨s', false⟩⟩ ∧ bs s' = [] := by
  unfold dirB headB at h
  simp only [List.append_assoc] at h
  obtain ⟨a0, e0, k0⟩ := rByt_app s magicB _ h
  obtain ⟨a1, e1, k1⟩ := rNum_vE a0 id.toNat _ (by omega) k0
  obtain ⟨a2, e2, k2⟩ := rNum_vE a1 width.toNat _ (by omega) k1
  obtain ⟨a3, e3, k3⟩ := rNum_vE a2 fr.toNat _ (by omega) k2
  obtain ⟨a4, e4, k4⟩ := rNum_vE a3 l.length _ (by omega) k3
  obtain ⟨a5, e5, k5⟩ := rLoop_itms (l.length : Int) l 4001 0 a4 [] [] hx hch (by rw [List.append_nil]; exact k4) (by simp) (by omega)
  refine ⟨a5, ?_, k5⟩
  have e0' : rByt 4 ⟨s, false⟩ = (str magicB, ⟨a0, false⟩) := e0
  rw [rBlk_eq, e0']
  simp only [if_true]
  rw [rBlk2_eq e1 e2 e3 e4, if_neg (by omega), e5]
  rw [show ((id.toNat : Nat) : Int) = id by omega, show ((width.toNat : Nat) : Int) = width by omega, show ((fr.toNat : Nat) : Int) = fr by omega]
  simp
end Go.Proofs.YtoojpfcnekpboaaGreat

namespace Go.Proofs.YtoojpfcnekpboaaGreat

theorem whole_seal (s : ByteArray) (l : List UInt8) (h : bs s = sealB l) : CR.Whole s ∧ bs (CR.body s) = l := by
  have hl := congrArg List.length h
  rw [bs_length, sealB_len] at hl
  have hb : bs (CR.body s) = l := by
    unfold CR.body
    rw [bs_ext, List.drop_zero, Nat.sub_zero, h]
    unfold sealB
    rw [show s.size - 4 = l.length by omega, List.take_left]
  refine ⟨?_, hb⟩
  unfold CR.Whole
  rw [hb]
  refine bs_inj ?_
  unfold CR.tail4
  rw [bs_ext, h, bs_str]
  unfold sealB
  rw [show s.size - 4 = l.length by omega, List.drop_left, List.take_of_length_le (by show 4 ≤ _; omega)]
theorem le32_four (n : Nat) (h : n < 4294967296) : le32 (four4 n) = n := by
  unfold le32 four4 le4
  simp only [List.getD_cons_zero, List.getD_cons_succ]
  rw [toNat_byte (by omega), toNat_byte (by omega), toNat_byte (by omega), toNat_byte (by omega)]
  omega
/-! ### Blocks that are valid -/
theorem bchkFrom_all (width : Int) : ∀ (p : Option Chk) (l : List Chk), bchkFrom width p l = 0 → ∀ x ∈ l, cchk x width = 0
  | _, [], _, x, hx => by simp at hx
  | p, y :: r, h, x, hx => by
    unfold bchkFrom at h
    split at h
    · rename_i hc
      split at h
      · cases h
      · rcases List.mem_cons.1 hx with rfl | hx
        · exact hc
        · exact bchkFrom_all width _ r h x hx
    · rename_i hc
      exact absurd h hc
theorem cchk_zeroN {x : Chk} {width : Int} (h : cchk x width = 0) : 1 ≤ x.sig ∧ x.sig ≤ 6 ∧ chkL x.labs = 0 ∧ zchk x.zone = 0 ∧ x.data.size ≤ 262144 := by
  unfold cchk at h
  split at h
  · cases h
  rename_i h1
  split at h
  · cases h
  split at h
  · rename_i h2
    exact absurd h h2
  rename_i h2
  split at h
  · cases h
  split at h
  · rename_i h3
    exact absurd h h3
  rename_i h3
  split at h
  · cases h
  rename_i h4
  exact ⟨by omega, by omega, by omega, by omega, by omega⟩
theorem bchk_zeroN {b : Blk} (h : bchk b = 0) : 1 ≤ b.id ∧ b.id ≤ 1152921504606846976 ∧ 0 ≤ b.width ∧ b.width ≤ 1099511627776 ∧ 0 ≤ b.fr ∧ b.fr ≤ 1099511627776 ∧ b.chunks.length ≤ 4000 ∧ bchkFrom b.width none b.chunks = 0 := by
  unfold bchk at h
  split at h
  · cases h
  split at h
  · cases h
  split at h
  · cases h
  split at h
  · cases h
  omega
def strip (x : Chk) : Chk := ⟨x.sig, x.labs, x.zone, ⟨#[]⟩⟩
theorem strip_cchk {x : Chk} {width : Int} (h : cchk x width = 0) : cchk (strip x) width = 0 := by
  unfold cchk at h ⊢
  have e1 : (strip x).sig = x.sig := rfl
  have e2 : (strip x).labs = x.labs := rfl
  have e3 : (strip x).zone = x.zone := rfl
  have e4 : (strip x).data.size = 0 := rfl
  rw [e1, e2, e3, e4]
  split at h
  · cases h
  rename_i h1
  rw [if_neg h1]
  split at h
  · cases h
  rename_i h2
  rw [if_neg h2]
  split at h
  · rename_i h3
    exact absurd h h3
  rename_i h3
  rw [if_neg h3]
  split at h
  · cases h
  rename_i h4
  rw [if_neg h4]
  split at h
  · rename_i h5
    exact absurd h h5
  rename_i h5
  rw [if_neg h5, if_neg (by omega)]
theorem strip_from (width : Int) : ∀ (p : Option Chk) (l : List Chk), bchkFrom width p l = 0 → bchkFrom width (p.map strip) (l.map strip) = 0
  | _, [], _ => rfl
  | p, y :: r, h => by
    rw [List.map_cons]
    unfold bchkFrom at h ⊢
    split at h
    · rename_i hc
      rw [if_pos (strip_cchk hc)]
      split at h
      · cases h
      · rename_i ho
        have ih := strip_from width (some y) r h
        rw [if_neg]
        · exact ih
        · cases p with
          | none => simp
          | some q => exact ho
    · rename_i hc
      exact absurd h hc
theorem strip_itm : ∀ (a : Int) (xs : List Chk), (itmFrom a xs).map chkOf = xs.map strip
  | _, [] => rfl
  | a, x :: r => by
    unfold itmFrom
    rw [List.map_cons, List.map_cons, strip_itm _ r]
    rfl
theorem chain_itm : ∀ (a : Int) (xs : List Chk), ChainI a (itmFrom a xs)
  | _, [] => trivial
  | a, x :: r => by
    unfold itmFrom
    exact ⟨rfl, chain_itm _ r⟩
theorem sizes_itm : ∀ (a : Int) (xs : List Chk), sizes (itmFrom a xs) = ((xs.flatMap (fun x => sealB (bs x.data))).length : Int)
  | _, [] => rfl
  | a, x :: r => by
    unfold itmFrom sizes
    rw [List.map_cons, List.sum_cons]
    have := sizes_itm (a + (x.data.size + 4)) r
    unfold sizes at this
    rw [this, List.flatMap_cons, List.length_append, sealB_len, bs_length]
    push_cast
    omega
theorem itF_itm {width : Int} : ∀ (xs : List Chk) (a : Int), 0 ≤ a → a + 604 * xs.length ≤ 1000000 → (∀ x ∈ xs, cchk x width = 0 ∧ ZW x.zone ∧ x.data.size ≤ 600 ∧ (fmtL x.labs).length ≤ 8100) → ∀ y ∈ itmFrom a xs, ItF y
  | [], _, _, _, _, y, hy => by simp [itmFrom] at hy
  | x :: r, a, h0, h1, h, y, hy => by
    obtain ⟨c1, c2, c3, c4⟩ := h x List.mem_cons_self
    obtain ⟨d1, d2, d3, d4, d5⟩ := cchk_zeroN c1
    rw [List.length_cons] at h1
    unfold itmFrom at hy
    rcases List.mem_cons.1 hy with rfl | hy
    · exact ⟨by show 0 ≤ x.sig; omega, by show x.sig ≤ _; omega, h0, by show a ≤ _; omega, by show (4 : Int) ≤ x.data.size + 4; omega, by show ((x.data.size : Int) + 4) ≤ _; omega, d3, d4, c2, by show (fmtL x.labs).length ≤ _; omega⟩
    · exact itF_itm r _ (by omega) (by push_cast at h1 ⊢; omega) (fun z hz => h z (List.mem_cons_of_mem _ hz)) y hy
end Go.Proofs.YtoojpfcnekpboaaGreat

namespace Go.Proofs.YtoojpfcnekpboaaGreat

theorem chunks_back (s : ByteArray) (hs : s.size ≤ 100000) : ∀ (xs : List Chk) (P T : List UInt8), bs s = P ++ (xs.flatMap (fun x => sealB (bs x.data)) ++ T) →
    (∀ y ∈ itmFrom (P.length : Int) xs, chE s y = 0) ∧ (itmFrom (P.length : Int) xs).map (fullOf s) = xs
  | [], _, _, _ => ⟨fun y hy => by simp [itmFrom] at hy, rfl⟩
  | x :: r, P, T, h => by
    rw [List.flatMap_cons, List.append_assoc] at h
    have hl := congrArg List.length h
    rw [bs_length, List.length_append, List.length_append, sealB_len, bs_length] at hl
    have hp : bs (prtS s (P.length : Int) ((x.data.size : Int) + 4)) = sealB (bs x.data) := by
      unfold prtS
      rw [bs_ext, h, Int.toNat_natCast, List.drop_left, show ((P.length : Int) + ((x.data.size : Int) + 4)).toNat - P.length = (sealB (bs x.data)).length by rw [sealB_len, bs_length]; omega, List.take_left]
    obtain ⟨w1, w2⟩ := whole_seal _ _ hp
    have hsz : (prtS s (P.length : Int) ((x.data.size : Int) + 4)).size = x.data.size + 4 := by
      have := congrArg List.length hp
      rw [bs_length, sealB_len, bs_length] at this
      exact this
    have hc : chE s ⟨x.sig, x.labs, x.zone, (P.length : Int), (x.data.size : Int) + 4⟩ = 0 := by
      unfold chE
      rw [if_neg (by show ¬ ((P.length : Int) < 0 ∨ (x.data.size : Int) + 4 < 0 ∨ (s.size : Int) < (P.length : Int) ∨ (s.size : Int) - (P.length : Int) < (x.data.size : Int) + 4); omega), if_neg (by show ¬ (prtS s (P.length : Int) ((x.data.size : Int) + 4)).size < 4; rw [hsz]; omega), if_pos w1]
    have hd : chD s ⟨x.sig, x.labs, x.zone, (P.length : Int), (x.data.size : Int) + 4⟩ = x.data := bs_inj w2
    obtain ⟨i1, i2⟩ := chunks_back s hs r (P ++ sealB (bs x.data)) T (by rw [List.append_assoc]; exact h)
    have e : ((P ++ sealB (bs x.data)).length : Int) = (P.length : Int) + ((x.data.size : Int) + 4) := by
      rw [List.length_append, sealB_len, bs_length]
      push_cast
      omega
    rw [e] at i1 i2
    unfold itmFrom
    refine ⟨fun y hy => ?_, ?_⟩
    · rcases List.mem_cons.1 hy with rfl | hy
      · exact hc
      · exact i1 y hy
    · rw [List.map_cons, i2]
      unfold fullOf
      rw [hd]
/-- The file's parts are found again. -/
theorem file_opens (b : Blk) (hv : bchk b = 0) (hf : Fine b) (s : ByteArray) (h : bs s = fileB b) : opE s = 0 ∧ (opR s).id = b.id ∧ (opR s).width = b.width ∧ (opR s).fr = b.fr ∧ (opR s).items = itmFrom 0 b.chunks := by
  obtain ⟨v1, v2, v3, v4, v5, v6, v7, v8⟩ := bchk_zeroN hv
  have hdir := hf.dir
  have hdat := hf.dat
  have hl := congrArg List.length h
  unfold fileB at h hl
  rw [List.append_assoc] at h
  rw [bs_length, List.length_append, List.length_append, sealB_len (four4 _)] at hl
  have h4 : ∀ n, (four4 n).length = 4 := fun _ => rfl
  rw [h4] at hl
  have hn := sealB_len (bdir b)
  have hpre : s.size - 8 = (datB b ++ sealB (bdir b)).length := by rw [List.length_append]; omega
  have he : bs (endS s) = sealB (four4 ((sealB (bdir b)).length : Nat)) := by
    unfold endS
    rw [cutS_bs, hpre, h, ← List.append_assoc, List.drop_left]
  obtain ⟨e1, e2⟩ := whole_seal _ _ he
  have hz : szS s = (sealB (bdir b)).length := by
    unfold szS
    rw [e2]
    exact le32_four _ (by omega)
  have hd : bs (dirS s) = sealB (bdir b) := by
    unfold dirS
    rw [hz, bs_ext, show s.size - 8 - (sealB (bdir b)).length = (datB b).length by omega, h, List.drop_left, show s.size - 8 - (datB b).length = (sealB (bdir b)).length by omega, List.take_left]
  obtain ⟨d1, d2⟩ := whole_seal _ _ hd
  have hlen := itmFrom_len 0 b.chunks
  have hw : ∀ x ∈ b.chunks, cchk x b.width = 0 ∧ ZW x.zone ∧ x.data.size ≤ 600 ∧ (fmtL x.labs).length ≤ 8100 := fun x hx => ⟨bchkFrom_all _ _ _ v8 x hx, hf.zone x hx, hf.data x hx, fmtL_len2 _ (hf.labs x hx) (hf.lab x hx)⟩
  have hfew := hf.few
  obtain ⟨s', r1, r2⟩ := rBlk_dir (CR.body (dirS s)) b.id b.width b.fr (itmFrom 0 b.chunks) (by omega) (by omega) (by omega) (by omega) (itF_itm b.chunks 0 (by omega) (by omega) hw) (chain_itm 0 b.chunks) d2
  have ho : opR s = ⟨b.id, b.width, b.fr, itmFrom 0 b.chunks, sizes (itmFrom 0 b.chunks), ⟨s', false⟩⟩ := r1
  refine ⟨?_, by rw [ho], by rw [ho], by rw [ho], by rw [ho]⟩
  unfold opE
  rw [if_neg (by omega), if_pos e1, hz, if_neg (by omega), if_pos d1, if_neg]
  rw [ho]
  have hs' : s'.size = 0 := by rw [← bs_length, r2]; rfl
  have ht : sizes (itmFrom 0 b.chunks) = ((s.size - 8 - (sealB (bdir b)).length : Nat) : Int) := by
    rw [sizes_itm]
    show ((datB b).length : Int) = _
    omega
  have hb : bchk (RB.blk ⟨b.id, b.width, b.fr, itmFrom 0 b.chunks, sizes (itmFrom 0 b.chunks), ⟨s', false⟩⟩) = 0 := by
    unfold RB.blk
    simp only [strip_itm]
    unfold bchk
    rw [if_neg (by show ¬ (b.id < 1 ∨ _ < b.id); omega), if_neg (by show ¬ (b.width < 0 ∨ _ < b.width); omega)]
    have hq : ¬ (b.fr < 0 ∨ 1099511627776 < b.fr ∨ (b.width = 0 ∧ b.fr ≠ 0)) := by
      intro hq
      unfold bchk at hv
      rw [if_neg (by omega), if_neg (by omega), if_pos hq] at hv
      cases hv
    rw [if_neg hq, if_neg (by show ¬ 4000 < (b.chunks.map strip).length; rw [List.length_map]; omega)]
    exact strip_from b.width none b.chunks v8
  rintro (q | q | q | q)
  · cases q
  · exact q hs'
  · exact q ht
  · exact q hb
/-- What was encoded is decoded. -/
theorem dec_file (b : Blk) (hv : bchk b = 0) (hf : Fine b) (s : ByteArray) (h : bs s = fileB b) : decE s = 0 ∧ decR s = b := by
  obtain ⟨h1, h2, h3, h4, h5⟩ := file_opens b hv hf s h
  have hs : s.size ≤ 100000 := by
    have := congrArg List.length h
    rw [bs_length] at this
    have := hf.file
    omega
  obtain ⟨c1, c2⟩ := chunks_back s hs b.chunks [] (sealB (bdir b) ++ sealB (four4 (sealB (bdir b)).length)) (by
    rw [h]
    unfold fileB datB
    simp)
  have hd : decE s = 0 := by
    rw [decE_of h1, h5]
    exact itE_all s _ c1
  refine ⟨hd, ?_⟩
  rw [decR_good s hd, h2, h3, h4, h5]
  have c3 : (itmFrom 0 b.chunks).map (fullOf s) = b.chunks := c2
  rw [c3]
end Go.Proofs.YtoojpfcnekpboaaGreat
