/- Walks: a file's directory (the program's). Rows of bytes of a call's own that are written; bytes and registers. The walk of the law BlockBack. -/
import Derived.Test.YtoojpfcnekpboaaMBK
import Derived.Test.YtoojpfcnekpboaaNA
import Derived.Laws.IdiomStrings
import Derived.RegionTactic
import Derived.Outline
import Derived.ChangeAlike
import Derived.Test.YtoojpfcnekpboaaMBR
namespace Go.Proofs.Ytoojpfcnekpboaa
open Go.RowKit Go.Shelf

theorem results_tmp4 {fn : Func} {t u v x : Tmp} (h : fn.results = #[.tmp t, .tmp u, .tmp v, .tmp x]) (tmps : Array Value) (P : Program) (w : World) :
    (results fn tmps).run P w = .ok (.tuple #[tmps.getD t undef, tmps.getD u undef, tmps.getD v undef, tmps.getD x undef]) w := by
  simp [results, h]
/-- What Directory answers. -/
def DrPost (s : ByteArray) (w : World) (e : Ending) (w' : World) : Prop := Below w.heap.size w w' ∧
  ((opE s = 0 ∧ ∃ A c, e = .returned (.tuple #[.int .i64 (opR s).id, .int .i64 (opR s).width, .slice A (opR s).items.length c, .int .i64 0]) ∧ ItmsT w' A (opR s).items ∧ (opR s).items.length ≤ c) ∨
   (opE s ≠ 0 ∧ e = .returned (.tuple #[.int .i64 0, .int .i64 0, .slice none 0 0, .int .i64 (opE s)])))
set_option maxRecDepth 100000 in
set_option maxHeartbeats 1000000 in
theorem dirOf_any (s : ByteArray) (w : World) (hs : s.size ≤ 100000) :
    Calls Try.prog 14 #[.string s] w (DrPost s w) := by
  have HS := Lib.hid hs
  clear hs
  go_enter Try.func14, Try.ntmps14
  go_wp2_with fail
  refine (open_any s w HS.out).mono ?_
  rintro e w1 ⟨hb, ⟨hop, A, c, A2, c2, rfl, hI, hIc, hC, hCc, hA2⟩ | ⟨hop, rfl⟩⟩
  · have HB := Lib.hid hb
    have HI := Lib.hid hI
    have HIC := Lib.hid hIc
    have HOP := Lib.hid hop
    have HCV := Lib.hid (blC_blk (opR s))
    clear hb hI hIc hC hCc hop hA2
    rw [HCV.out]
    obtain ⟨v1, hv1⟩ : ∃ v, (opR s).id = v := ⟨_, rfl⟩
    obtain ⟨v2, hv2⟩ : ∃ v, (opR s).width = v := ⟨_, rfl⟩
    obtain ⟨v3, hv3⟩ : ∃ v, (opR s).fr = v := ⟨_, rfl⟩
    obtain ⟨its, hits⟩ : ∃ its, (opR s).items = its := ⟨_, rfl⟩
    rw [hits] at HI HIC
    have HEQ : Hid ((opR s).id = v1 ∧ (opR s).width = v2 ∧ (opR s).items = its) := Lib.hid ⟨hv1, hv2, hits⟩
    rw [hv1, hv2, hv3, hits]
    clear hv1 hv2 hv3 hits HCV
    have HBX := Lib.hid (At.new w1 #[.int .i64 0, .int .i64 0, .int .i64 0, .slice none 0 0] 24)
    obtain ⟨V, hV⟩ : ∃ V, V = (#[.int .i64 v1, .int .i64 v2, .int .i64 v3, .slice A2 its.length c2] : Array Value) := ⟨_, rfl⟩
    rw [← hV]
    have hcs : V.size = 4 := by rw [hV]; rfl
    have HV1 : Hid ((V.all fun v => v.oneCell') = true) := Lib.hid (by rw [hV]; simp [Value.oneCell'])
    have HV := Lib.hid hV
    clear hV
    go_wp2_with (refine wpList_store_at rfl 24 (.tmp 6) (.tmp 12) rfl w1.heap.size V rfl rfl 24 _ HBX.out (by rw [hcs]; exact size_blk) hcs.symm HV1.out ?_)
    intro w2 HW2
    have HRR : Hid (Below w1.heap.size w1 w2) := Lib.hid (by rw [HW2.out]; exact below_row ((Below.refl _ _).alloc (Nat.le_refl _) _) _ _ (Nat.le_refl _))
    have HBX2 : Hid (At w2 w1.heap.size #[.int .i64 v1, .int .i64 v2, .int .i64 v3, .slice A2 its.length c2] 24) := Lib.hid (by rw [HW2.out, ← HV.out]; exact HBX.out.row)
    replace HI := Lib.hid (HI.out.kt (KT.below HRR.out) (KT.below HRR.out))
    replace HB := Lib.hid (HB.out.trans (HRR.out.mono HB.out.size))
    clear HW2 HRR HBX hcs HV1 HV
    generalize w1.heap.size = Bb at *
    have x0 : w2.cell? ⟨Bb, 0, none⟩ = some (.int .i64 v1) := HBX2.out.cell 0
    have x1 : w2.cell? ⟨Bb, 1, none⟩ = some (.int .i64 v2) := HBX2.out.cell 1
    have HDR : Hid (∀ w', w'.heap = w2.heap → w'.output = w2.output → w'.os = w2.os → Below w.heap.size w w' → DrPost s w (.returned (.tuple #[.int .i64 v1, .int .i64 v2, .slice A its.length c, .int .i64 0])) w') := Lib.hid (fun w' h1 _ _ hb => by
      unfold DrPost
      rw [HEQ.out.1, HEQ.out.2.1, HEQ.out.2.2]
      have hk : ∀ E, KT E w2 w' := fun E => ⟨by rw [h1]; exact Nat.le_refl _, fun b cs fz h => by rw [h1]; exact h⟩
      exact ⟨hb, .inl ⟨HOP.out, A, c, rfl, HI.out.kt (hk _) (hk _), HIC.out⟩⟩)
    go_wp2_with fail
    go_quiet (fail)
    go_wp2_with fail
    (try simp only [Exit.inBlock, Exit.then])
    refine bodyPost_ret (results_tmp4 rfl _ _ _) rfl ?_
    exact HDR.out _ rfl rfl rfl (bN HB.out _)
  · have HB := Lib.hid hb
    have HOP := Lib.hid hop
    have d1 : (opE s != 0) = true := bne_iff_ne.2 hop
    clear hb hop
    have HBX := Lib.hid (At.new w1 #[.int .i64 0, .int .i64 0, .int .i64 0, .slice none 0 0] 24)
    obtain ⟨V, hV⟩ : ∃ V, V = blC ⟨0, 0, 0, []⟩ none 0 := ⟨_, rfl⟩
    rw [← hV]
    have hcs : V.size = 4 := by rw [hV]; rfl
    have HV1 : Hid ((V.all fun v => v.oneCell') = true) := Lib.hid (by rw [hV]; exact blC_one _ _ _)
    clear hV
    obtain ⟨er, her⟩ : ∃ er, opE s = er := ⟨_, rfl⟩
    have HER := Lib.hid her
    rw [her] at d1
    rw [her]
    clear her
    go_wp2_with (refine wpList_store_at rfl 24 (.tmp 6) (.tmp 12) rfl w1.heap.size V rfl rfl 24 _ HBX.out (by rw [hcs]; exact size_blk) hcs.symm HV1.out ?_)
    intro w2 HW2
    have HRR : Hid (Below w1.heap.size w1 w2) := Lib.hid (by rw [HW2.out]; exact below_row ((Below.refl _ _).alloc (Nat.le_refl _) _) _ _ (Nat.le_refl _))
    replace HB := Lib.hid (HB.out.trans (HRR.out.mono HB.out.size))
    clear HW2 HRR HBX hcs HV1
    go_wp2_with fail
    (try simp only [Exit.inBlock, Exit.then])
    refine bodyPost_ret (results_tmp4 rfl _ _ _) rfl ?_
    unfold DrPost
    rw [← HER.out]
    exact ⟨HB.out, .inr ⟨HOP.out, rfl⟩⟩
end Go.Proofs.Ytoojpfcnekpboaa

namespace Go.Proofs.Ytoojpfcnekpboaa
open Go.RowKit Crc

/-- Block b begins with these bytes, and they can be written. -/
def Buf (W : World) (b : Nat) (l : List UInt8) : Prop := ∃ C fr, W.heap[b]? = some (.cells C 5 fr) ∧ l.length ≤ fr.1 ∧ ∀ j (h : j < l.length), C[j]? = some (.int .u8 l[j].toNat)
theorem Buf.cell {W : World} {b : Nat} {l : List UInt8} (h : Buf W b l) (j : Nat) (hj : j < l.length) : W.cell? ⟨b, j, none⟩ = some (.int .u8 l[j].toNat) := by
  obtain ⟨C, fr, h1, h2, h3⟩ := h
  rw [cell_of_row W b j C 5 fr h1, h3 j hj]
theorem Buf.free {W : World} {b : Nat} {l : List UInt8} (h : Buf W b l) (j : Nat) (hj : j < l.length) : W.frozen? ⟨b, j, none⟩ = false := by
  obtain ⟨C, fr, h1, h2, h3⟩ := h
  simp [World.frozen?, h1]
  omega
theorem Buf.set {W : World} {b : Nat} {l : List UInt8} (h : Buf W b l) (i : Nat) (hi : i < l.length) (c : UInt8) : Buf (W.setCell ⟨b, i, none⟩ (.int .u8 c.toNat)) b (l.set i c) := by
  obtain ⟨C, fr, h1, h2, h3⟩ := h
  refine ⟨C.setIfInBounds i (.int .u8 c.toNat), fr, ?_, by simpa using h2, ?_⟩
  · simp [World.setCell, Array.getElem?_modify, h1]
  · intro j hj
    have hj' : j < l.length := by simpa using hj
    rw [Array.getElem?_setIfInBounds, List.getElem_set]
    have hC : i < C.size := by
      have := h3 i hi
      exact (Array.getElem?_eq_some_iff.1 this).1
    by_cases e : i = j
    · subst e; rw [if_pos rfl, if_pos rfl, if_pos hC]
    · rw [if_neg e, if_neg e, h3 j hj']
theorem Buf.new (w : World) (s : ByteArray) : Buf (w.alloc (.cells (bytesRow s (grownCap w s.size 0 5)) 5 ((bytesRow s (grownCap w s.size 0 5)).size, (bytesRow s (grownCap w s.size 0 5)).size + 1))) w.heap.size (bs s) := by
  have hl : (bs s).length ≤ (bytesRow s (grownCap w s.size 0 5)).size := by
    unfold bytesRow; rw [bs_length, Array.size_append, Array.size_map]; exact Nat.le_add_right _ _
  refine ⟨_, _, heap_alloc_new _ _, hl, ?_⟩
  intro j hj
  unfold bytesRow
  have hj2 : j < s.data.size := hj
  rw [Array.getElem?_append_left (by simpa using hj2), Array.getElem?_map, Array.getElem?_eq_getElem hj2]
  rfl
theorem Buf.drew {W : World} {b : Nat} {l : List UInt8} (h : Buf W b l) : Buf W.drew b l := h
theorem Buf.lt {W : World} {b : Nat} {l : List UInt8} (h : Buf W b l) : b < W.heap.size := by
  obtain ⟨C, fr, h1, _⟩ := h
  exact (Array.getElem?_eq_some_iff.1 h1).1
theorem Buf.below {W W' : World} {b : Nat} {l : List UInt8} (h : Buf W b l) (hb : Below W.heap.size W W') : Buf W' b l := by
  obtain ⟨C, fr, h1, h2⟩ := h
  exact ⟨C, fr, (hb.block b (Array.getElem?_eq_some_iff.1 h1).1).trans h1, h2⟩
/-- What the bytes are as a string. -/
theorem Buf.str {W : World} {b : Nat} {l : List UInt8} (h : Buf W b l) (cap : Nat) : (convert 33 9 (.slice (some ⟨b, 0, none⟩) l.length cap)).run Try.prog W = .ok (.string (str l)) W := by
  refine run_convert_bytes_back W 33 9 5 ⟨b, 0, none⟩ cap l Try.underlying33 Try.underlying5 Try.underlying9 (fun j hj => ?_)
  have : (⟨b, 0, none⟩ : Addr).add j = ⟨b, j, none⟩ := by unfold Addr.add; simp; omega
  rw [this]
  exact h.cell j hj

theorem b_xor (x y : UInt8) : Go.bits .xor .u8 (x.toNat : Int) (y.toNat : Int) = ((x ^^^ y).toNat : Int) := by
  unfold Go.bits
  show IntKind.u8.wrap (((BitVec.ofInt 8 (x.toNat : Int) ^^^ BitVec.ofInt 8 (y.toNat : Int) : BitVec 8).toNat : Nat) : Int) = _
  have e : ∀ z : UInt8, BitVec.ofInt 8 (z.toNat : Int) = z.toBitVec := fun z => by
    apply BitVec.eq_of_toNat_eq
    simp
  rw [e, e]
  rw [← UInt8.toBitVec_xor]
  have := (x ^^^ y).toNat_lt
  show IntKind.u8.wrap ((x ^^^ y).toNat : Int) = _
  rw [IntKind.wrap_u8]
  omega
theorem u_bit1 (y : BitVec 32) : Go.bits .and .u32 (CR.u y) 1 = if y.getLsbD 0 then 1 else 0 := by
  cases h : y.getLsbD 0
  · exact (CR.u_low y).2 h
  · rw [show (1 : Int) = CR.u 1#32 from rfl, CR.u_and]
    have : y &&& 1#32 = 1#32 := by
      apply BitVec.eq_of_getLsbD_eq
      intro i hi
      rw [BitVec.getLsbD_and]
      rcases i with _ | i
      · rw [h]; simp
      · simp
    rw [this]
    rfl
theorem shr_bit (x : BitVec 32) (k : Nat) : (x >>> k).getLsbD 0 = x.getLsbD k := by
  rw [BitVec.getLsbD_ushiftRight]; simp
theorem getLsbD_testBit (x : BitVec 32) (k : Nat) : x.getLsbD k = x.toNat.testBit k := rfl
theorem flip_at (l : List UInt8) (k : Nat) (h : k / 8 < l.length) : l.set (k / 8) (l[k / 8] ^^^ (1 : UInt8) <<< UInt8.ofNat (k % 8)) = Crc.flip l k := by
  unfold Crc.flip
  congr 2
  rw [List.getD_eq_getElem?_getD, List.getElem?_eq_getElem h]; rfl
theorem shl_byte (r : Nat) (h : r < 8) : (2 : Int) ^ r % 256 = (((1 : UInt8) <<< UInt8.ofNat r).toNat : Int) := by
  rcases r with _ | _ | _ | _ | _ | _ | _ | _ | r <;> first | rfl | omega
theorem xor_byte (c : UInt8) (r : Nat) (h : r < 8) : Go.bits .xor .u8 (c.toNat : Int) (2 ^ r % 256) = ((c ^^^ (1 : UInt8) <<< UInt8.ofNat r).toNat : Int) := by
  rw [shl_byte r h, b_xor]
theorem wfb {k : IntKind} {a : Int} (h : (Lit.int k a).wf = true) : k.min ≤ a ∧ a ≤ k.max := by
  unfold Lit.wf at h
  simpa using h
theorem wf32 {a : Int} (h : (Lit.int .u32 a).wf = true) : ∃ x, a = CR.u x := by
  have h := wfb h
  rw [show IntKind.u32.min = 0 from rfl, show IntKind.u32.max = 4294967295 from rfl] at h
  exact CR.u_of h.1 (by omega)
theorem wf16 {a : Int} (h : (Lit.int .u16 a).wf = true) : 0 ≤ a ∧ a < 65536 := by
  have h := wfb h
  rw [show IntKind.u16.min = 0 from rfl, show IntKind.u16.max = 65535 from rfl] at h
  omega
theorem wf8 {a : Int} (h : (Lit.int .u8 a).wf = true) : 0 ≤ a ∧ a < 256 := by
  have h := wfb h
  rw [show IntKind.u8.min = 0 from rfl, show IntKind.u8.max = 255 from rfl] at h
  omega
end Go.Proofs.Ytoojpfcnekpboaa

namespace Go.Proofs.Ytoojpfcnekpboaa
open Go.RowKit Go.Shelf

theorem vE_pos (n : Nat) : 1 ≤ (vE n).length := by unfold vE vEf; split <;> simp
theorem fileB_len20 (b : Blk) : (datB b).length + 20 ≤ (fileB b).length := by
  have h1 := vE_pos b.id.toNat
  have h2 := vE_pos b.width.toNat
  have h3 := vE_pos b.fr.toNat
  have h4 := vE_pos (itmFrom 0 b.chunks).length
  unfold fileB bdir dirB headB
  rw [List.length_append, List.length_append, sealB_len, sealB_len]
  simp only [List.length_append]
  have h5 : magicB.length = 4 := rfl
  have h6 : ∀ n, (four4 n).length = 4 := fun _ => rfl
  rw [h5, h6]
  omega
theorem name_len (s : ByteArray) (h : nameB s = true) : s.size ≤ 60 := by
  unfold nameB at h
  simp only [Bool.and_eq_true, decide_eq_true_eq] at h
  omega
theorem chkFrom_len : ∀ (p : Option ByteArray) (l : List Lab), chkFrom p l = 0 → ∀ y ∈ l, y.name.size ≤ 61 ∧ y.value.size ≤ 201
  | _, [], _, y, hy => by simp at hy
  | p, x :: r, h, y, hy => by
    unfold chkFrom at h
    split at h
    · rename_i hn
      split at h
      · cases h
      split at h
      · cases h
      rename_i h2
      split at h
      · cases h
      · rcases List.mem_cons.1 hy with rfl | hy
        · have := name_len _ hn
          omega
        · exact chkFrom_len _ r h y hy
    · cases h
theorem chkL_len {l : List Lab} (h : chkL l = 0) : l.length ≤ 17 ∧ ∀ y ∈ l, y.name.size ≤ 61 ∧ y.value.size ≤ 201 := by
  unfold chkL at h
  split at h
  · cases h
  · exact ⟨by omega, chkFrom_len none l h⟩
theorem dat_each (b : Blk) (x : Chk) (hx : x ∈ b.chunks) : x.data.size ≤ (datB b).length := by
  unfold datB
  generalize b.chunks = l at *
  induction l with
  | nil => cases hx
  | cons y r ih =>
    rw [List.flatMap_cons, List.length_append, sealB_len, bs_length]
    rcases List.mem_cons.1 hx with rfl | hx
    · omega
    · have := ih hx
      omega
theorem its_words : ∀ (l : List Itm) (a : Int), ItsOk a l → ∀ x ∈ l, ZW x.zone
  | [], _, _, x, hx => by simp at hx
  | y :: r, a, h, x, hx => by
    rcases List.mem_cons.1 hx with rfl | hx
    · exact h.1.word
    · exact its_words r _ h.2 x hx
theorem dec_words (s : ByteArray) (h : decE s = 0) : ∀ x ∈ (decR s).chunks, ZW x.zone := by
  have ho : opE s = 0 := by
    unfold decE at h
    split at h
    · rename_i h1
      exact h1
    · rename_i h1
      exact absurd h h1
  obtain ⟨_, _, _, _, _, o6, _⟩ := opE_zero s ho
  rw [decR_good s h]
  obtain ⟨R, hR⟩ : ∃ R, R = rBlk ⟨CR.body (dirS s), false⟩ := ⟨_, rfl⟩
  have eR : opR s = R := by rw [hR]; rfl
  rw [eR] at o6 ⊢
  have hk := rBlk_ok ⟨CR.body (dirS s), false⟩ (by rw [← hR]; exact o6)
  rw [← hR] at hk
  obtain ⟨_, _, _, r4, _⟩ := hk
  clear hR eR
  intro x hx
  obtain ⟨y, hy, rfl⟩ := List.mem_map.1 hx
  exact its_words _ _ r4 y hy
theorem dec_mid (s : ByteArray) (h : decE s = 0) (hs : s.size ≤ 3000) : Mid (decR s) := by
  obtain ⟨h1, h2⟩ := dec_back s h
  obtain ⟨_, _, _, _, _, _, v7, v8⟩ := bchk_zeroN h1
  have hl : (fileB (decR s)).length ≤ 3000 := by rw [h2, bs_length]; exact hs
  have h20 := fileB_len20 (decR s)
  have hc : ∀ x ∈ (decR s).chunks, chkL x.labs = 0 := fun x hx => (cchk_zeroN (bchkFrom_all _ _ _ v8 x hx)).2.2.1
  exact ⟨v7, fun x hx => by have := dat_each _ x hx; omega, fun x hx => (chkL_len (hc x hx)).1, fun x hx => (chkL_len (hc x hx)).2, dec_words s h, by omega⟩
theorem dec_enc (s : ByteArray) (h : decE s = 0) : pairV (encB (decR s)) = .tuple #[.string s, .int .i64 0] := by
  obtain ⟨h1, h2⟩ := dec_back s h
  unfold encB
  rw [if_pos h1, h2, str_bs]
  rfl
/-- Where the chunks of a file end. -/
theorem ends_all {b : Blk} (h : Mid b) : ∃ Z : Nat → Nat, Z 0 = 0 ∧ (∀ k, Z k ≤ 71388) ∧ (∀ k x, (itmFrom 0 b.chunks)[k]? = some x → x.size = (Z (k + 1) : Int) - (Z k : Int)) ∧ Z b.chunks.length + 20 ≤ (fileB b).length := by
  refine ⟨offAt b.chunks, rfl, offAt_mid h, fun k x hk => ?_, ?_⟩
  · have hk' : k < b.chunks.length := by
      have := (List.getElem?_eq_some_iff.1 hk).1
      rw [itmFrom_len] at this
      exact this
    have hg := itmFrom_get 0 b.chunks k hk'
    rw [hk] at hg
    injection hg with hg
    rw [hg, offAt_step hk']
    show ((b.chunks[k]).data.size : Int) + 4 = _
    push_cast
    omega
  · have h1 := fileB_len20 b
    have h2 := datTo_le b b.chunks.length
    rw [offAt_datTo]
    omega
set_option maxRecDepth 100000 in
set_option maxHeartbeats 4000000 in
theorem lawBack_any (b : Blk) (A : Option Addr) (c : Nat) (s : ByteArray) (hs : s.size ≤ 140737488351232) (w : World) (hB : BlkOk w b A c) :
    Calls Try.prog 5 #[.agg (blC b A c), .string s] w fun e w' => e = .returned (.bool true) ∧ Below w.heap.size w w' := by
  have hat := At.new w (blC b A c) 24
  have hb0 : Below w.heap.size w (w.alloc (.cells (blC b A c) 24)) := (Below.refl _ _).alloc (Nat.le_refl _) _
  have HB := Lib.hid hb0
  have HAT := Lib.hid hat
  have HG := Lib.hid (fun (W : World) (h : Below w.heap.size w W) => greatB_any b A c W ((hB.rd.below h).mono h.size) hB.cap (fun x hx => (hB.labs x hx).1) hB.len)
  have HEN := Lib.hid (fun (hf : Fine b) (W : World) (h : Below w.heap.size w W) => encode_any b A c W ((hB.rd.below h).mono h.size) hB.cap hf.mid)
  have HFI := Lib.hid (fun (h : bgreat b = false) => Fine.of h hB.zone)
  have HSM := Lib.hid (fun (hf : Fine b) (A' : Option Addr) (c' : Nat) (W : World) (h : Below w.heap.size w W) (hl' : ChksIn W.heap.size W A' b.chunks) (hc' : b.chunks.length ≤ c') => same_eq b A A' c c' W ((hB.rd.below h).mono h.size) hB.cap hl' hc' (fun x hx => (hB.labs x hx).1) (by have := hf.few; omega))
  obtain ⟨V, hV⟩ : ∃ V, V = blC b A c := ⟨_, rfl⟩
  rw [← hV] at HAT HB HG HEN HSM
  rw [← hV]
  have hvs : V.size = 4 := by rw [hV]; rfl
  have HV := Lib.hid hV
  have hsi : (s.size : Int) ≤ 140737488351232 := by omega
  clear hat hb0 hB hV hs
  go_enter Try.func5, Try.ntmps5
  go_upto_region 1 with fail
  generalize w.alloc (.cells V 24) = w0 at *
  go_wp2_with (refine wpList_load_row rfl 24 (.tmp 2) rfl w.heap.size rfl 24 V (0, 0) _ HAT.out.out Try.underlying24 rfl (by rw [hvs]; exact size_blk) ?_)
  refine (HG.out w0 HB.out).mono ?_
  rintro e w1 ⟨rfl, hb⟩
  replace HAT := Lib.hid (HAT.out.below hb)
  replace HB := Lib.hid (HB.out.trans (hb.mono HB.out.size))
  clear hb HG
  by_cases hg : bgreat b = true
  · rw [hg]
    clear hg HEN HFI HSM
    go_wp2_with fail
    refine (awake_any w1).mono ?_
    rintro e w2 ⟨rfl, hb⟩
    have HB2 := Lib.hid (HB.out.trans (hb.mono HB.out.size))
    clear hb
    go_wp2_with fail
    go_ret
    exact ⟨rfl, HB2.out⟩
  have hg2 : bgreat b = false := by simpa using hg
  have hf := HFI.out hg2
  have HEN2 := Lib.hid (HEN.out hf)
  have HSM2 := Lib.hid (HSM.out hf)
  have HF := Lib.hid hf
  rw [hg2]
  clear hg hg2 hf HEN HFI HSM
  by_cases h3 : 3000 < (s.size : Int)
  · clear HEN2 HSM2
    go_wp2_with fail
    refine (awake_any w1).mono ?_
    rintro e w2 ⟨rfl, hb⟩
    have HB2 := Lib.hid (HB.out.trans (hb.mono HB.out.size))
    clear hb
    go_wp2_with fail
    go_ret
    exact ⟨rfl, HB2.out⟩
  have HS3 : Hid (s.size ≤ 3000) := Lib.hid (by omega)
  by_cases hz : bchk b = 0
  · have HR : Hid (encB b = (str (fileB b), 0)) := Lib.hid (by unfold encB; rw [if_pos hz])
    rw [HR.out] at HEN2
    simp only [pairV] at HEN2
    obtain ⟨F, hF⟩ : ∃ F, str (fileB b) = F := ⟨_, rfl⟩
    have HFE : Hid (bs F = fileB b) := Lib.hid (by rw [← hF, bs_str])
    have HFD := Lib.hid (dec_file b hz HF.out F HFE.out)
    have HFO := Lib.hid (file_opens b hz HF.out F HFE.out)
    obtain ⟨Z, hz0, hz1, hz2, hz3⟩ := ends_all HF.out.mid
    have HZ1 := Lib.hid hz1
    have HZ2 := Lib.hid hz2
    have hfs : F.size = (fileB b).length := by rw [← bs_length, HFE.out]
    have hfx : F.size ≤ 71400 := by rw [hfs]; exact HF.out.file
    have HFX : Hid (F.size ≤ 100000) := Lib.hid (by omega)
    have HFY : Hid (Z b.chunks.length + 20 ≤ F.size) := Lib.hid (by omega)
    have hfi : (F.size : Int) ≤ 71400 := by omega
    rw [hF] at HEN2
    clear hF hfs hfx hz HR hz1 hz2 hz3
    go_wp2_with (refine wpList_load_row rfl 24 (.tmp 2) rfl w.heap.size rfl 24 V (0, 0) _ HAT.out.out Try.underlying24 rfl (by rw [hvs]; exact size_blk) ?_)
    refine (HEN2.out w1 HB.out).mono ?_
    rintro e w2 ⟨rfl, hb⟩
    replace HAT := Lib.hid (HAT.out.below hb)
    replace HB := Lib.hid (HB.out.trans (hb.mono HB.out.size))
    clear hb HEN2
    go_wp2_with fail
    refine (decode_any F w2 HFX.out).mono ?_
    unfold DPost
    rw [HFD.out.1, HFD.out.2]
    rintro e w3 ⟨hb, A1, c1, rfl, hck, hcc⟩
    replace HAT := Lib.hid (HAT.out.below hb)
    replace HB := Lib.hid (HB.out.trans (hb.mono HB.out.size))
    have HCK := Lib.hid hck
    have HCC := Lib.hid hcc
    obtain ⟨U, hU⟩ : ∃ U, U = blC b A1 c1 := ⟨_, rfl⟩
    rw [← hU]
    have hus : U.size = 4 := by rw [hU]; rfl
    have HU1 : Hid ((U.all fun v => v.oneCell') = true) := Lib.hid (by rw [hU]; exact blC_one _ _ _)
    have HU := Lib.hid hU
    have HUX := Lib.hid (At.new w3 #[.int .i64 0, .int .i64 0, .int .i64 0, .slice none 0 0] 24)
    clear hb hck hcc hU
    go_wp2_with (refine wpList_store_at rfl 24 (.tmp 7) (.tmp 38) rfl w3.heap.size U rfl rfl 24 _ HUX.out (by rw [hus]; exact size_blk) hus.symm HU1.out ?_)
    intro w4 HW4
    have HRR : Hid (Below w3.heap.size w3 w4) := Lib.hid (by rw [HW4.out]; exact below_row ((Below.refl _ _).alloc (Nat.le_refl _) _) _ _ (Nat.le_refl _))
    have HU4 : Hid (At w4 w3.heap.size U 24) := Lib.hid (by rw [HW4.out]; exact HUX.out.row)
    replace HAT := Lib.hid (HAT.out.below HRR.out)
    replace HB := Lib.hid (HB.out.trans (HRR.out.mono HB.out.size))
    replace HCK := Lib.hid ((HCK.out.below HRR.out).mono HRR.out.size)
    clear HW4 HRR HUX HU1
    generalize w3.heap.size = Bu at *
    go_wp2_with fail
    refine (dirOf_any F w4 HFX.out).mono ?_
    unfold DrPost
    obtain ⟨o1, o2, o3, _, o5⟩ := HFO.out
    rw [o1, o2, o3, o5, itmFrom_len]
    clear o1 o2 o3 o5
    rintro e w5 ⟨hb, ⟨_, A3, c3, rfl, hit, hic⟩ | ⟨hno, _⟩⟩
    case inr => exact absurd rfl hno
    replace HAT := Lib.hid (HAT.out.below hb)
    replace HU4 := Lib.hid (HU4.out.below hb)
    replace HCK := Lib.hid ((HCK.out.below hb).mono hb.size)
    replace HB := Lib.hid (HB.out.trans (hb.mono HB.out.size))
    have HIT := Lib.hid hit
    have HSM3 := Lib.hid (HSM2.out A1 c1 w5 HB.out HCK.out HCC.out)
    rw [← HU.out] at HSM3
    clear hb hit hic HSM2 HFO HFD HFE HCK HCC HU
    go_wp2_with (first | (refine wpList_load_atG rfl 24 (.tmp 2) rfl w.heap.size rfl 24 V _ HAT.out Try.underlying24 rfl (by rw [hvs]; exact size_blk) ?_) | (refine wpList_load_atG rfl 24 (.tmp 7) rfl Bu rfl 24 U _ HU4.out Try.underlying24 rfl (by rw [hus]; exact size_blk) ?_))
    refine HSM3.out.mono ?_
    rintro e w6 ⟨rfl, hb⟩
    replace HAT := Lib.hid (HAT.out.below hb)
    rw [HV.out] at HAT
    replace HB := Lib.hid (HB.out.trans (hb.mono HB.out.size))
    replace HIT := Lib.hid (HIT.out.kt (KT.below hb) (KT.below hb))
    have x0 : w6.cell? ⟨w.heap.size, 0, none⟩ = some (.int .i64 b.id) := HAT.out.cell 0
    have x1 : w6.cell? ⟨w.heap.size, 1, none⟩ = some (.int .i64 b.width) := HAT.out.cell 1
    have x3 : w6.cell? ⟨w.heap.size, 3, none⟩ = some (.slice A b.chunks.length c) := HAT.out.cell 3
    have HLN : Hid ((itmFrom 0 b.chunks).length = b.chunks.length) := Lib.hid (itmFrom_len _ _)
    have hfew : (b.chunks.length : Int) ≤ 8 := by have := HF.out.few; omega
    obtain ⟨its, hits⟩ : ∃ its, itmFrom 0 b.chunks = its := ⟨_, rfl⟩
    rw [hits] at HIT HLN HZ2
    obtain ⟨n, hn⟩ : ∃ n, b.chunks.length = n := ⟨_, rfl⟩
    rw [hn] at x3 HLN HFY hfew
    rw [hn]
    clear hb HSM3 HU4 hus hits hn HF HAT HV hvs
    go_upto_region 9 with fail
    clear x0 x1 x3
    go_wp2_with fail
    go_loopw [13, 81] (fun t i wr => ∃ k : Nat, k ≤ n ∧ t = .int .i64 (Z k) ∧ i = .int .i64 k ∧ Hid (ItmsT wr A3 its) ∧ Hid (Below w.heap.size w wr)) (fun _ i _ => n - (intOf i).toNat)
    case atStart => exact ⟨0, Nat.zero_le _, by rw [hz0]; rfl, rfl, HIT, HB⟩
    case round =>
      clear HIT HB
      obtain ⟨k, hk, rfl, rfl, HIT, HB⟩ := hrel
      have hkm : (k : Int) ≤ 8 := by omega
      have hzk := HZ1.out k
      by_cases hlt : k < n
      · obtain ⟨g, o, A', c', rfl, hrg, _, _⟩ := HIT.out.get k (by rw [HLN.out]; exact hlt)
        have hzs := HZ2.out k _ (List.getElem?_eq_getElem (by rw [HLN.out]; exact hlt))
        have hzk1 := HZ1.out (k + 1)
        obtain ⟨x, hx⟩ : ∃ x, its[k]'(by rw [HLN.out]; exact hlt) = x := ⟨_, rfl⟩
        rw [hx] at hrg hzs
        obtain ⟨Y, hY⟩ : ∃ Y, Y = itC x.sig A' x.labs.length c' x.zone x.off x.size := ⟨_, rfl⟩
        rw [← hY] at hrg
        have HRG := Lib.hid hrg
        have hys : Y.size = 17 := by rw [hY]; rfl
        have HY1 : Hid ((Y.all fun v => v.oneCell') = true) := Lib.hid (by rw [hY]; exact itC_one _ _ _ _ _ _ _)
        have hil : (k : Int) < (n : Int) := by omega
        have HY := Lib.hid hY
        clear hrg hY hx
        go_wp2_with (first | (refine wpList_load_mid rfl 46 (.tmp 83) rfl g (o + k * 17) rfl Y.toList _ HRG.out Try.underlying46 rfl (by rw [Array.length_toList, hys]; exact size_item) ?_) | (refine wpList_store_at rfl 46 (.tmp 15) (.tmp 84) rfl wr.heap.size Y rfl rfl 46 _ (At.new _ _ _) (by rw [hys]; exact size_item) hys.symm HY1.out ?_))
        intro w7 HW7
        have HRR : Hid (Below wr.heap.size wr w7) := Lib.hid (by rw [HW7.out]; exact below_row ((Below.refl _ _).alloc (Nat.le_refl _) _) _ _ (Nat.le_refl _))
        have HX7 : Hid (At w7 wr.heap.size Y 46) := Lib.hid (by rw [HW7.out]; exact (At.new _ _ _).row)
        have x16 : w7.cell? ⟨wr.heap.size, 16, none⟩ = some (.int .i64 x.size) := by rw [HX7.out.cell, HY.out]; rfl
        replace HIT := Lib.hid (HIT.out.kt (KT.below HRR.out) (KT.below HRR.out))
        replace HB := Lib.hid (HB.out.trans (HRR.out.mono HB.out.size))
        obtain ⟨q, hq⟩ : ∃ q, x.size = q := ⟨_, rfl⟩
        rw [hq] at x16 hzs
        have hzz : (Z k : Int) + q = (Z (k + 1) : Int) := by omega
        have hq0 : (0 : Int) ≤ (Z k : Int) + q := by omega
        have hq1 : (Z k : Int) + q ≤ 71388 := by omega
        have HZZ := Lib.hid hzz
        clear HW7 HRR HX7 HY HY1 hys HRG hq hzz hzs hzk1 hzk
        go_wp2_with fail
        go_roundw
        case rel => exact ⟨k + 1, hlt, by rw [HZZ.out], by go_num, HIT, HB⟩
        case measure => simp [intOf]; omega
      · have hke : k = n := by omega
        subst hke
        have hno : ¬ (F.size : Int) < (Z k : Int) + 20 := by have := HFY.out; omega
        clear HIT
        have HSS : Hid (s.size ≤ 100000) := Lib.hid (by have := HS3.out; omega)
        go_wp2_with fail
        refine (decode_any s _ HSS.out).mono ?_
        unfold DPost
        rintro e wd ⟨hb, A2, c2, rfl, hck, hcc⟩
        replace HB := Lib.hid (HB.out.trans (hb.mono HB.out.size))
        clear hb
        by_cases hd : decE s = 0
        · have HEN : Hid (∀ W, Below wd.heap.size wd W → Calls Try.prog 9 #[.agg (blC (decR s) A2 c2)] W fun e w' => e = .returned (.tuple #[.string s, .int .i64 0]) ∧ Below W.heap.size W w') := Lib.hid (fun W hW => by
            have h1 := encode_any (decR s) A2 c2 W ((hck.below hW).mono hW.size) hcc (dec_mid s hd HS3.out)
            rw [dec_enc s hd] at h1
            exact h1)
          rw [hd]
          obtain ⟨R, hR⟩ : ∃ R, decR s = R := ⟨_, rfl⟩
          rw [hR] at HEN
          rw [hR]
          obtain ⟨T, hT⟩ : ∃ T, T = blC R A2 c2 := ⟨_, rfl⟩
          rw [← hT] at HEN
          rw [← hT]
          have hts : T.size = 4 := by rw [hT]; rfl
          have HT1 : Hid ((T.all fun v => v.oneCell') = true) := Lib.hid (by rw [hT]; exact blC_one _ _ _)
          clear hd hck hcc hR hT
          have HTX := Lib.hid (At.new wd #[.int .i64 0, .int .i64 0, .int .i64 0, .slice none 0 0] 24)
          go_wp2_with (refine wpList_store_at rfl 24 (.tmp 16) (.tmp 98) rfl wd.heap.size T rfl rfl 24 _ HTX.out (by rw [hts]; exact size_blk) hts.symm HT1.out ?_)
          intro we HWE
          have HRR : Hid (Below wd.heap.size wd we) := Lib.hid (by rw [HWE.out]; exact below_row ((Below.refl _ _).alloc (Nat.le_refl _) _) _ _ (Nat.le_refl _))
          have HT5 : Hid (At we wd.heap.size T 24) := Lib.hid (by rw [HWE.out]; exact HTX.out.row)
          replace HB := Lib.hid (HB.out.trans (HRR.out.mono HB.out.size))
          have HEN2 := Lib.hid (HEN.out we HRR.out)
          clear HWE HTX HRR HEN
          go_wp2_with (refine wpList_load_row rfl 24 (.tmp 16) rfl wd.heap.size rfl 24 T (0, 0) _ HT5.out.out Try.underlying24 rfl (by rw [hts]; exact size_blk) ?_)
          refine HEN2.out.mono ?_
          rintro e wf ⟨rfl, hb⟩
          replace HB := Lib.hid (HB.out.trans (hb.mono HB.out.size))
          clear hb HEN2 HT5 HT1 hts
          go_wp2_with fail
          refine (awake_any _).mono ?_
          rintro e wg ⟨rfl, hb⟩
          replace HB := Lib.hid (HB.out.trans (hb.mono HB.out.size))
          clear hb
          go_wp2_with fail
          go_ret
          exact ⟨rfl, HB.out⟩
        · have d1 : (decE s == 0) = false := beq_eq_false_iff_ne.2 hd
          obtain ⟨er, her⟩ : ∃ er, decE s = er := ⟨_, rfl⟩
          rw [her] at d1
          rw [her, decR_bad hd]
          obtain ⟨T, hT⟩ : ∃ T, T = blC ⟨0, 0, 0, []⟩ A2 c2 := ⟨_, rfl⟩
          rw [← hT]
          have hts : T.size = 4 := by rw [hT]; rfl
          have HT1 : Hid ((T.all fun v => v.oneCell') = true) := Lib.hid (by rw [hT]; exact blC_one _ _ _)
          clear hd hck hcc hT her
          have HTX := Lib.hid (At.new wd #[.int .i64 0, .int .i64 0, .int .i64 0, .slice none 0 0] 24)
          go_wp2_with (refine wpList_store_at rfl 24 (.tmp 16) (.tmp 98) rfl wd.heap.size T rfl rfl 24 _ HTX.out (by rw [hts]; exact size_blk) hts.symm HT1.out ?_)
          intro we HWE
          have HRR : Hid (Below wd.heap.size wd we) := Lib.hid (by rw [HWE.out]; exact below_row ((Below.refl _ _).alloc (Nat.le_refl _) _) _ _ (Nat.le_refl _))
          replace HB := Lib.hid (HB.out.trans (HRR.out.mono HB.out.size))
          clear HWE HTX HRR HT1 hts
          go_wp2_with fail
          refine (awake_any _).mono ?_
          rintro e wg ⟨rfl, hb⟩
          replace HB := Lib.hid (HB.out.trans (hb.mono HB.out.size))
          clear hb
          go_wp2_with fail
          go_ret
          exact ⟨rfl, HB.out⟩
  · have d : (bchk b == 0) = false := beq_eq_false_iff_ne.2 hz
    have HR : Hid (encB b = (⟨#[]⟩, bchk b)) := Lib.hid (by unfold encB; rw [if_neg hz])
    rw [HR.out] at HEN2
    simp only [pairV] at HEN2
    clear hz HR HF HSM2
    go_wp2_with (refine wpList_load_row rfl 24 (.tmp 2) rfl w.heap.size rfl 24 V (0, 0) _ HAT.out.out Try.underlying24 rfl (by rw [hvs]; exact size_blk) ?_)
    refine (HEN2.out w1 HB.out).mono ?_
    rintro e w2 ⟨rfl, hb⟩
    replace HB := Lib.hid (HB.out.trans (hb.mono HB.out.size))
    clear hb HEN2 HAT
    have HSS : Hid (s.size ≤ 100000) := Lib.hid (by have := HS3.out; omega)
    go_wp2_with fail
    refine (decode_any s _ HSS.out).mono ?_
    unfold DPost
    rintro e wd ⟨hb, A2, c2, rfl, hck, hcc⟩
    replace HB := Lib.hid (HB.out.trans (hb.mono HB.out.size))
    clear hb
    by_cases hd : decE s = 0
    · have HEN : Hid (∀ W, Below wd.heap.size wd W → Calls Try.prog 9 #[.agg (blC (decR s) A2 c2)] W fun e w' => e = .returned (.tuple #[.string s, .int .i64 0]) ∧ Below W.heap.size W w') := Lib.hid (fun W hW => by
        have h1 := encode_any (decR s) A2 c2 W ((hck.below hW).mono hW.size) hcc (dec_mid s hd HS3.out)
        rw [dec_enc s hd] at h1
        exact h1)
      rw [hd]
      obtain ⟨R, hR⟩ : ∃ R, decR s = R := ⟨_, rfl⟩
      rw [hR] at HEN
      rw [hR]
      obtain ⟨T, hT⟩ : ∃ T, T = blC R A2 c2 := ⟨_, rfl⟩
      rw [← hT] at HEN
      rw [← hT]
      have hts : T.size = 4 := by rw [hT]; rfl
      have HT1 : Hid ((T.all fun v => v.oneCell') = true) := Lib.hid (by rw [hT]; exact blC_one _ _ _)
      clear hd hck hcc hR hT
      have HTX := Lib.hid (At.new wd #[.int .i64 0, .int .i64 0, .int .i64 0, .slice none 0 0] 24)
      go_wp2_with (refine wpList_store_at rfl 24 (.tmp 16) (.tmp 98) rfl wd.heap.size T rfl rfl 24 _ HTX.out (by rw [hts]; exact size_blk) hts.symm HT1.out ?_)
      intro we HWE
      have HRR : Hid (Below wd.heap.size wd we) := Lib.hid (by rw [HWE.out]; exact below_row ((Below.refl _ _).alloc (Nat.le_refl _) _) _ _ (Nat.le_refl _))
      have HT5 : Hid (At we wd.heap.size T 24) := Lib.hid (by rw [HWE.out]; exact HTX.out.row)
      replace HB := Lib.hid (HB.out.trans (HRR.out.mono HB.out.size))
      have HEN2 := Lib.hid (HEN.out we HRR.out)
      clear HWE HTX HRR HEN
      go_wp2_with (refine wpList_load_row rfl 24 (.tmp 16) rfl wd.heap.size rfl 24 T (0, 0) _ HT5.out.out Try.underlying24 rfl (by rw [hts]; exact size_blk) ?_)
      refine HEN2.out.mono ?_
      rintro e wf ⟨rfl, hb⟩
      replace HB := Lib.hid (HB.out.trans (hb.mono HB.out.size))
      clear hb HEN2 HT5 HT1 hts
      go_wp2_with fail
      refine (awake_any _).mono ?_
      rintro e wg ⟨rfl, hb⟩
      replace HB := Lib.hid (HB.out.trans (hb.mono HB.out.size))
      clear hb
      go_wp2_with fail
      go_ret
      exact ⟨rfl, HB.out⟩
    · have d1 : (decE s == 0) = false := beq_eq_false_iff_ne.2 hd
      obtain ⟨er, her⟩ : ∃ er, decE s = er := ⟨_, rfl⟩
      rw [her] at d1
      rw [her, decR_bad hd]
      obtain ⟨T, hT⟩ : ∃ T, T = blC ⟨0, 0, 0, []⟩ A2 c2 := ⟨_, rfl⟩
      rw [← hT]
      have hts : T.size = 4 := by rw [hT]; rfl
      have HT1 : Hid ((T.all fun v => v.oneCell') = true) := Lib.hid (by rw [hT]; exact blC_one _ _ _)
      clear hd hck hcc hT her
      have HTX := Lib.hid (At.new wd #[.int .i64 0, .int .i64 0, .int .i64 0, .slice none 0 0] 24)
      go_wp2_with (refine wpList_store_at rfl 24 (.tmp 16) (.tmp 98) rfl wd.heap.size T rfl rfl 24 _ HTX.out (by rw [hts]; exact size_blk) hts.symm HT1.out ?_)
      intro we HWE
      have HRR : Hid (Below wd.heap.size wd we) := Lib.hid (by rw [HWE.out]; exact below_row ((Below.refl _ _).alloc (Nat.le_refl _) _) _ _ (Nat.le_refl _))
      replace HB := Lib.hid (HB.out.trans (HRR.out.mono HB.out.size))
      clear HWE HTX HRR HT1 hts
      go_wp2_with fail
      refine (awake_any _).mono ?_
      rintro e wg ⟨rfl, hb⟩
      replace HB := Lib.hid (HB.out.trans (hb.mono HB.out.size))
      clear hb
      go_wp2_with fail
      go_ret
      exact ⟨rfl, HB.out⟩
theorem wkBack (b : Blk) (A : Option Addr) (c : Nat) (s : ByteArray) (w : World) (h : BlkOk w b A c) (hs : s.size ≤ 140737488351232) : Calls Try.prog 5 #[.agg (blC b A c), .string s] w fun e w' => e = .returned (.bool true) ∧ Below w.heap.size w w' :=
  lawBack_any b A c s hs w h
end Go.Proofs.Ytoojpfcnekpboaa
