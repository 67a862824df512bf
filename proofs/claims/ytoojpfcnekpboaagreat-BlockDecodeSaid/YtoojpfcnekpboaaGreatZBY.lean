/- Walks: the directory (the program's). -/
import Derived.Test.YtoojpfcnekpboaaGreatZBX
import Derived.Shelf.RegionOpen
import Derived.Laws.EntriesVeiled
namespace Go.Proofs.YtoojpfcnekpboaaGreat
open Go.RowKit Go.Shelf
attribute [local go_sem] Oper.semAt_some

def itBk (xs : List Chk) (k : Fin xs.length) : List UInt8 := vE (xs[k]).sig.toNat ++ vE (fmtL (xs[k]).labs).length ++ fmtL (xs[k]).labs ++ vE (zE (xs[k]).zone).length ++ zE (xs[k]).zone ++ vE (offAt xs k.1) ++ vE ((xs[k]).data.size + 4)
theorem itBk_all (xs : List Chk) : (List.finRange xs.length).flatMap (itBk xs) = (itmFrom 0 xs).flatMap itB := by
  have h : itmFrom 0 xs = (List.finRange xs.length).map (fun k => (⟨(xs[k]).sig, (xs[k]).labs, (xs[k]).zone, 0 + (offAt xs k.1 : Int), (xs[k]).data.size + 4⟩ : Itm)) := by
    apply List.ext_getElem?
    intro i
    by_cases hi : i < xs.length
    · rw [itmFrom_get 0 xs i hi, List.getElem?_map, List.getElem?_eq_getElem (by simpa using hi)]
      simp
    · rw [List.getElem?_eq_none (by rw [itmFrom_len]; omega), List.getElem?_eq_none (by simp; omega)]
  rw [h, List.flatMap_map]
  congr 1
  funext k
  unfold itBk itB
  simp only [Int.zero_add]
  congr 2
theorem itBk_len {xs : List Chk} (k : Fin xs.length) (h : (fmtL (xs[k]).labs).length ≤ 8100) : (itBk xs k).length ≤ 8300 := by
  have h1 := vE_len (xs[k]).sig.toNat
  have h2 := vE_len (fmtL (xs[k]).labs).length
  have h3 := vE_len (zE (xs[k]).zone).length
  have h4 := zE_len (xs[k]).zone
  have h5 := vE_len (offAt xs k.1)
  have h6 := vE_len ((xs[k]).data.size + 4)
  unfold itBk
  simp only [List.length_append]
  omega
theorem ownFrom_bl {β : Type} {W : World} {b B : Nat} {f : β → List UInt8} (hB : W.heap.size ≤ B) : OwnFrom B (fun s w => BL W b (f s) w) := fun _ X _ row hs hg hr => by
  obtain ⟨p, A, n, c, h1, h2, h3, h4⟩ := hs.ex
  have hne : ∀ k cs t fz, X.heap[k]? = some (.cells cs t fz) → row ≠ some k := fun k cs t fz hk e => by
    obtain ⟨_, o, h5, h6⟩ := hr k e
    rw [hk] at h5
    injection h5 with h5
    rw [← h5] at h6
    cases h6
  refine ⟨hs.ge, hs.below.grown hg hs.below.size (fun k e => Nat.le_trans hB (hr k e).1), p, A, n, c, h1, h2.grown hg (hne b _ _ _ h2.out), h3, h4.kept hg ?_⟩
  rcases hq : (Value.slice A n c).ownBlock with _ | k
  · exact .inl rfl
  · refine .inr fun e => ?_
    rcases h4.2 with ⟨e2, _⟩ | ⟨g, cap, cur, e2, _, h5, _⟩
    · rw [e2] at hq; cases hq
    · rw [e2] at hq
      injection hq with hq
      subst hq
      exact hne _ _ _ _ h5 e.symm
theorem pre_len {xs : List Chk} (h : ∀ k : Fin xs.length, (itBk xs k).length ≤ 8300) : ∀ pre : List (Fin xs.length), (pre.flatMap (itBk xs)).length ≤ 8300 * pre.length
  | [] => by simp
  | k :: r => by
    have h1 := h k
    have h2 := pre_len h r
    simp only [List.flatMap_cons, List.length_append, List.length_cons]
    omega

/-- Where the directory's walk stands: the block's box, the builder, the two closures' variables. -/
structure DS (w : World) (B b nb tb : Nat) (blk : Array Value) (l : List UInt8) (W : World) : Prop where mk ::
  bl : BL w b l W
  box : At W B blk 25
  num : At W nb #[numF b] 139
  text : At W tb #[textF nb b] 140
  ne : B ≠ b ∧ nb ≠ b ∧ tb ≠ b
theorem DS.next {w : World} {B b nb tb : Nat} {blk : Array Value} {l l' : List UInt8} {W W' : World} (h : DS w B b nb tb blk l W) (hb : BL w b l' W') (ho : OK8 b W W') : DS w B b nb tb blk l' W' :=
  ⟨hb, h.box.ok8 ho h.ne.1 (by decide), h.num.ok8 ho h.ne.2.1 (by decide), h.text.ok8 ho h.ne.2.2 (by decide), h.ne⟩
theorem DS.later {w : World} {B b nb tb : Nat} {blk : Array Value} {l : List UInt8} {W W' : World} (h : DS w B b nb tb blk l W) (hb : Below W.heap.size W W') : DS w B b nb tb blk l W' := h.next (h.bl.later hb) (ok8_below hb)
theorem DS.number {w : World} {B b nb tb : Nat} {blk : Array Value} {l : List UInt8} {W : World} (h : DS w B b nb tb blk l W) (n : Int) (k : Nat) (hn : n = k) (hl : l.length ≤ 1000000000) (h1 : k ≤ 1152921504606846976) :
    Calls Tryz.prog 88 #[.int .i64 n, .pointer (some ⟨b, 0, none⟩)] W fun e w' => e = .returned (.tuple #[]) ∧ DS w B b nb tb blk (l ++ vE k) w' ∧ OK8 b W w' ∧ W.heap.size ≤ w'.heap.size := by
  subst hn
  refine (number_any w b l k W h.bl hl (by omega) (by omega)).mono ?_
  rintro e w' ⟨rfl, h2, h3, h4⟩
  exact ⟨rfl, h.next h2 h3, h3, h4⟩
theorem DS.txt {w : World} {B b nb tb : Nat} {blk : Array Value} {l : List UInt8} {W : World} (h : DS w B b nb tb blk l W) (m : List UInt8) (hl : l.length ≤ 1000000000) (h1 : m.length ≤ 1000000) :
    Calls Tryz.prog 90 #[.string (str m), .pointer (some ⟨nb, 0, none⟩), .pointer (some ⟨b, 0, none⟩)] W fun e w' => e = .returned (.tuple #[]) ∧ DS w B b nb tb blk (l ++ vE m.length ++ m) w' ∧ OK8 b W w' ∧ W.heap.size ≤ w'.heap.size := by
  refine (text_any w b nb l (str m) 139 W h.bl h.num hl (by rw [str_size]; omega)).mono ?_
  rintro e w' ⟨rfl, h2, h3, h4⟩
  rw [str_size, bs_str] at h2
  exact ⟨rfl, h.next h2 h3, h3, h4⟩

set_option maxRecDepth 100000 in
set_option maxHeartbeats 2000000 in
theorem directory_any (b : Blk) (A : Option Addr) (c : Nat) (w : World) (hl : ChksIn w.heap.size w A b.chunks) (hf : Mid b) (hz : bchk b = 0) :
    Calls Tryz.prog 63 #[.agg (blC b A c)] w fun e w' => e = .returned (.string (str (bdir b))) ∧ Below w.heap.size w w' := by
  have hb : Below w.heap.size w (w.alloc (.cells (blC b A c) 25)) := (Below.refl _ _).alloc (Nat.le_refl _) _
  have HAT := Lib.hid (At.new w (blC b A c) 25)
  have HB0 := Lib.hid hb
  have HL := Lib.hid hl
  have HF := Lib.hid hf
  have HZ := Lib.hid hz
  have hfew := hf.few
  clear hl hf hz hb
  refine calls_marks Tryz.func63 rfl ?_
  simp only [Tryz.ntmps63, List.size_toArray, List.length_cons, List.length_nil, Nat.reduceAdd, Nat.reduceSub, Array.replicate_succ,
     Array.replicate_zero, List.push_toArray, List.append_toArray, List.nil_append, List.cons_append]
  go_upto_region 1 with fail
  generalize w.alloc (.cells (blC b A c) 25) = w0 at *
  have HBL1 := Lib.hid (BL.new HB0.out)
  have HW1 : Hid (Below w0.heap.size w0 (w0.alloc (.cells #[.pointer none, .slice none 0 0] 106))) := Lib.hid ((Below.refl _ _).alloc (Nat.le_refl _) _)
  have HS1 : Hid (w0.heap.size < (w0.alloc (.cells #[.pointer none, .slice none 0 0] 106)).heap.size) := Lib.hid (by simp)
  go_upto_region 2 with fail
  generalize w0.alloc (.cells #[.pointer none, .slice none 0 0] 106) = w1 at *
  go_upto_region 3 with fail
  have HN2 : Hid (At (w1.alloc (.cells #[.func (.func 88) #[] #[.pointer (some ⟨w0.heap.size, 0, none⟩)]] 139)) w1.heap.size #[numF w0.heap.size] 139) := Lib.hid (At.new w1 _ 139)
  have HW2 : Hid (Below w1.heap.size w1 (w1.alloc (.cells #[.func (.func 88) #[] #[.pointer (some ⟨w0.heap.size, 0, none⟩)]] 139))) := Lib.hid ((Below.refl _ _).alloc (Nat.le_refl _) _)
  generalize w1.alloc (.cells #[.func (.func 88) #[] #[.pointer (some ⟨w0.heap.size, 0, none⟩)]] 139) = w2 at *
  go_upto_region 4 with fail
  have HN3 : Hid (At (w2.alloc (.cells #[.func (.func 90) #[] #[.pointer (some ⟨w1.heap.size, 0, none⟩), .pointer (some ⟨w0.heap.size, 0, none⟩)]] 140)) w2.heap.size #[textF w1.heap.size w0.heap.size] 140) := Lib.hid (At.new w2 _ 140)
  have HW3 : Hid (Below w2.heap.size w2 (w2.alloc (.cells #[.func (.func 90) #[] #[.pointer (some ⟨w1.heap.size, 0, none⟩), .pointer (some ⟨w0.heap.size, 0, none⟩)]] 140))) := Lib.hid ((Below.refl _ _).alloc (Nat.le_refl _) _)
  generalize w2.alloc (.cells #[.func (.func 90) #[] #[.pointer (some ⟨w1.heap.size, 0, none⟩), .pointer (some ⟨w0.heap.size, 0, none⟩)]] 140) = w3 at *
  have HBL3 : Hid (BL w w0.heap.size [] w3) := Lib.hid ((HBL1.out.later HW2.out).later HW3.out)
  have HAT3 : Hid (At w3 w.heap.size (blC b A c) 25) := Lib.hid (((HAT.out.below HW1.out).below HW2.out).below HW3.out)
  have HN23 : Hid (At w3 w1.heap.size #[numF w0.heap.size] 139) := Lib.hid (HN2.out.below HW3.out)
  have hO1 : w.heap.size < w0.heap.size := HAT.out.lt
  have hO2 : w0.heap.size < w1.heap.size := HS1.out
  have hO3 : w1.heap.size < w2.heap.size := HN2.out.lt
  have hO4 : w2.heap.size < w3.heap.size := HN3.out.lt
  clear HN2 HW1 HW2 HW3 HBL1 HS1
  obtain ⟨hid, hwi, hfr, hch⟩ := bchk_zero HZ.out
  have HID := Lib.hid hid
  have HWI := Lib.hid hwi
  have HFR := Lib.hid hfr
  have HCH := Lib.hid hch
  clear hid hwi hfr hch
  go_wp2_with fail
  refine (writeString_any w _ [] ⟨#[76, 75, 66, 49]⟩ w3 HBL3.out (by decide)).mono ?_
  rintro e w4 ⟨rfl, hbl, hok⟩
  obtain ⟨m0, hm0⟩ : ∃ m, m = magicB := ⟨_, rfl⟩
  have HDS : Hid (DS w w.heap.size w0.heap.size w1.heap.size w2.heap.size (blC b A c) m0 w4) := Lib.hid ⟨by rw [hm0]; exact hbl, HAT3.out.ok8 hok (by omega) (by decide), HN23.out.ok8 hok (by omega) (by decide), HN3.out.ok8 hok (by omega) (by decide), by omega, by omega, by omega⟩
  have HM0 : Hid (m0.length ≤ 4) := Lib.hid (by rw [hm0]; exact Nat.le_refl _)
  have HM : Hid ((((m0 ++ vE b.id.toNat) ++ vE b.width.toNat) ++ vE b.fr.toNat) ++ vE b.chunks.length = headB b.id b.width b.fr b.chunks.length) := Lib.hid (by rw [hm0]; rfl)
  clear hbl hok hm0 HAT3 HN23 HN3 HBL3
  have c0 : w4.cell? ⟨w.heap.size, 0, none⟩ = some (.int .i64 b.id) := HDS.out.box.cell 0
  have n0 : w4.cell? ⟨w1.heap.size, 0, none⟩ = some (.func (.func 88) #[] #[.pointer (some ⟨w0.heap.size, 0, none⟩)]) := HDS.out.num.cell 0
  go_wp2_with fail
  refine (HDS.out.number b.id b.id.toNat (by have := HID.out; omega) (by have := HM0.out; omega) (by have := HID.out; omega)).mono ?_
  rintro e w5 ⟨rfl, hds, hok, _⟩
  obtain ⟨m1, hm1⟩ : ∃ m, m = m0 ++ vE b.id.toNat := ⟨_, rfl⟩
  rw [← hm1] at hds HM
  have HM1 : Hid (m1.length ≤ 14) := Lib.hid (by rw [hm1, List.length_append]; have := HM0.out; have := vE_len b.id.toNat; omega)
  have HDS1 := Lib.hid hds
  clear hds hok c0 n0 hm1
  have c1 : w5.cell? ⟨w.heap.size, 1, none⟩ = some (.int .i64 b.width) := HDS1.out.box.cell 1
  have n0 : w5.cell? ⟨w1.heap.size, 0, none⟩ = some (.func (.func 88) #[] #[.pointer (some ⟨w0.heap.size, 0, none⟩)]) := HDS1.out.num.cell 0
  go_wp2_with fail
  refine (HDS1.out.number b.width b.width.toNat (by have := HWI.out; omega) (by have := HM1.out; omega) (by have := HWI.out; omega)).mono ?_
  rintro e w6 ⟨rfl, hds, hok, _⟩
  obtain ⟨m2, hm2⟩ : ∃ m, m = m1 ++ vE b.width.toNat := ⟨_, rfl⟩
  rw [← hm2] at hds HM
  have HM2 : Hid (m2.length ≤ 24) := Lib.hid (by rw [hm2, List.length_append]; have := HM1.out; have := vE_len b.width.toNat; omega)
  have HDS2 := Lib.hid hds
  clear hds hok c1 n0 hm2
  have c2 : w6.cell? ⟨w.heap.size, 2, none⟩ = some (.int .i64 b.fr) := HDS2.out.box.cell 2
  have n0 : w6.cell? ⟨w1.heap.size, 0, none⟩ = some (.func (.func 88) #[] #[.pointer (some ⟨w0.heap.size, 0, none⟩)]) := HDS2.out.num.cell 0
  go_wp2_with fail
  refine (HDS2.out.number b.fr b.fr.toNat (by have := HFR.out; omega) (by have := HM2.out; omega) (by have := HFR.out; omega)).mono ?_
  rintro e w7 ⟨rfl, hds, hok, _⟩
  obtain ⟨m3, hm3⟩ : ∃ m, m = m2 ++ vE b.fr.toNat := ⟨_, rfl⟩
  rw [← hm3] at hds HM
  have HM3 : Hid (m3.length ≤ 34) := Lib.hid (by rw [hm3, List.length_append]; have := HM2.out; have := vE_len b.fr.toNat; omega)
  have HDS3 := Lib.hid hds
  clear hds hok c2 n0 hm3
  have c3 : w7.cell? ⟨w.heap.size, 3, none⟩ = some (.slice A b.chunks.length c) := HDS3.out.box.cell 3
  have n0 : w7.cell? ⟨w1.heap.size, 0, none⟩ = some (.func (.func 88) #[] #[.pointer (some ⟨w0.heap.size, 0, none⟩)]) := HDS3.out.num.cell 0
  go_wp2_with fail
  refine (HDS3.out.number _ b.chunks.length rfl (by have := HM3.out; omega) (by omega)).mono ?_
  rintro e w8 ⟨rfl, hds, hok, _⟩
  rw [HM.out] at hds
  have HDS4 := Lib.hid hds
  clear hds hok c3 n0 HM
  have c3 : w8.cell? ⟨w.heap.size, 3, none⟩ = some (.slice A b.chunks.length c) := HDS4.out.box.cell 3
  go_wp2_with fail
  refine (offsets_any A b.chunks.length c w8).mono ?_
  rintro e w9 ⟨rfl, hw9⟩
  have HO : Hid (At w9 w8.heap.size #[.slice A b.chunks.length c] 23) := Lib.hid (by rw [hw9]; exact At.new _ _ _)
  have HW9 : Hid (Below w8.heap.size w8 w9) := Lib.hid (by rw [hw9]; exact (Below.refl _ _).alloc (Nat.le_refl _) _)
  have HDS5 := Lib.hid (HDS4.out.later HW9.out)
  clear hw9 c3
  obtain ⟨f, hck⟩ := HL.out.choose
  have HCK := Lib.hid hck
  have HFM : Hid (∀ k : Fin b.chunks.length, (fmtL (b.chunks[k]).labs).length ≤ 8100) := Lib.hid fun k => fmtL_len2 _ (HF.out.labs _ (List.getElem_mem k.2)) (HF.out.lab _ (List.getElem_mem k.2))
  have hsz9 : w8.heap.size < w9.heap.size := HO.out.lt
  have hbb : w0.heap.size < w9.heap.size := HDS5.out.bl.lt
  have hbw : w.heap.size ≤ w9.heap.size := HDS5.out.bl.below.size
  have HD9 : Hid (CK w.heap.size w9 A b.chunks f) := Lib.hid (HCK.out.below HDS5.out.bl.below)
  clear hck
  go_wp2_with fail
  refine range_chunks w.heap.size w0.heap.size w8.heap.size A c b.chunks f rfl rfl HO.out hbb hbw HD9.out HF.out.data hfew
    (fun k Bx T => (((T.setIfInBounds 33 (.int .i64 (offAt b.chunks k.1))).setIfInBounds 34 (.agg (chC (b.chunks[k]).sig (f k).1 (b.chunks[k]).labs.length (f k).2 (b.chunks[k]).zone (b.chunks[k]).data))).setIfInBounds 6 (.int .i64 (offAt b.chunks k.1))).setIfInBounds 7 (.pointer (some ⟨Bx, 0, none⟩)))
    (fun pre W => DS w w.heap.size w0.heap.size w1.heap.size w2.heap.size (blC b A c) (headB b.id b.width b.fr b.chunks.length ++ pre.flatMap (itBk b.chunks)) W ∧ w9.heap.size ≤ W.heap.size)
    ?hI (fun pre W h => h.2) ⟨by simpa using HDS5.out, Nat.le_refl _⟩ ?assign ?body ?done
  case hI =>
    refine OwnFrom.and (fun pre X Y row hs hg hr => ?_) (fun pre X Y row hs hg hr => Nat.le_trans hs hg.size)
    exact ⟨ownFrom_bl (β := Unit) (f := fun _ => headB b.id b.width b.fr b.chunks.length ++ pre.flatMap (itBk b.chunks)) hbw () X Y row hs.bl hg hr, (own_at (β := Unit) (fun _ => w.heap.size) 25 (fun _ => blC b A c)).from _ () X Y row hs.box hg hr, (own_at (β := Unit) (fun _ => w1.heap.size) 139 (fun _ => #[numF w0.heap.size])).from _ () X Y row hs.num hg hr, (own_at (β := Unit) (fun _ => w2.heap.size) 140 (fun _ => #[textF w1.heap.size w0.heap.size])).from _ () X Y row hs.text hg hr, hs.ne⟩
  case assign =>
    intro l x W K hK
    have HCHE : Hid (offEnc b.chunks f x = #[.int .i64 (offAt b.chunks x.1), .agg (chC (b.chunks[x]).sig (f x).1 (b.chunks[x]).labs.length (f x).2 (b.chunks[x]).zone (b.chunks[x]).data)]) := Lib.hid rfl
    rw [HCHE.out]
    generalize b.chunks[x] = y at *
    generalize (f x).1 = A' at *
    generalize (f x).2 = c' at *
    gi_wp2_with (refine wpListIn_store_at rfl 58 (.tmp 7) (.tmp 34) rfl W.heap.size (chC y.sig A' y.labs.length c' y.zone y.data) rfl rfl 58 chZ (At.new _ _ _) size_chunk rfl (chC_one _ _ _ _ _ _) ?_)
    intro W' hW'
    gi_wp2
    exact hW'
  case body =>
    rintro l pre x Bx W ⟨hds, hsz⟩ hBx hat hpre
    have HDS6 := Lib.hid hds
    have HAT6 := Lib.hid hat
    have hm : b.chunks[x] ∈ b.chunks := List.getElem_mem x.2
    have HXK := Lib.hid (cchk_zero (HCH.out _ hm))
    have HZW := Lib.hid (HF.out.zone _ hm)
    have hds6 := HF.out.data _ hm
    have hll := HF.out.labs _ hm
    have HLB := Lib.hid (HF.out.lab _ hm)
    have hfm := HFM.out x
    have HPRE : Hid ((headB b.id b.width b.fr b.chunks.length ++ pre.flatMap (itBk b.chunks)).length ≤ 34000000) := Lib.hid (by
      have h1 := headB_len b.id b.width b.fr b.chunks.length
      have h2 := pre_len (fun k => itBk_len k (HFM.out k)) pre
      rw [List.length_append]
      omega)
    have HLS : Hid (LabsIn w.heap.size w (f x).1 (b.chunks[x]).labs) := Lib.hid (by obtain ⟨_, _, _, _, _, h1, _⟩ := HCK.out x; exact h1)
    have HCAP : Hid ((b.chunks[x]).labs.length ≤ (f x).2) := Lib.hid (by obtain ⟨_, _, _, _, _, _, h2⟩ := HCK.out x; exact h2)
    have hoff := offAt_mid HF.out x.1
    have HNEW : Hid (headB b.id b.width b.fr b.chunks.length ++ (pre ++ [x]).flatMap (itBk b.chunks) = (headB b.id b.width b.fr b.chunks.length ++ pre.flatMap (itBk b.chunks)) ++ vE (b.chunks[x]).sig.toNat ++ vE (fmtL (b.chunks[x]).labs).length ++ fmtL (b.chunks[x]).labs ++ vE (zE (b.chunks[x]).zone).length ++ zE (b.chunks[x]).zone ++ vE (offAt b.chunks x.1) ++ vE ((b.chunks[x]).data.size + 4)) := Lib.hid (by
      rw [List.flatMap_append]
      simp only [List.flatMap_cons, List.flatMap_nil, List.append_nil, itBk, List.append_assoc])
    have HFST : Hid (∀ (a' : Act) W', OK8 w0.heap.size W W' → W.heap.size ≤ W'.heap.size → DS w w.heap.size w0.heap.size w1.heap.size w2.heap.size (blC b A c) (headB b.id b.width b.fr b.chunks.length ++ (pre ++ [x]).flatMap (itBk b.chunks)) W' → ownPostG w9.heap.size (KC w.heap.size w0.heap.size) (fun pre W => DS w w.heap.size w0.heap.size w1.heap.size w2.heap.size (blC b A c) (headB b.id b.width b.fr b.chunks.length ++ pre.flatMap (itBk b.chunks)) W ∧ w9.heap.size ≤ W.heap.size) (fun _ _ _ => False) (pre ++ [x]) W .normal a' W') := Lib.hid fun a' W' hok hs hd => by
      obtain ⟨_, _, _, _, _, h2, _⟩ := hds.bl.ex
      have h1 := hds.bl.below
      have h3 := hd.bl.below
      exact ⟨keeps_of_ok8 hok hs h2, KC.ofOK8 hok ⟨h3.os.trans h1.os.symm, h3.tape.trans h1.tape.symm, h3.output.trans h1.output.symm, hs, fun k hk => (h3.block k hk).trans (h1.block k hk).symm⟩, hd, Nat.le_trans hsz hs⟩
    clear hds hat hpre
    simp only [List.setIfInBounds_toArray, List.set_cons_zero, List.set_cons_succ]
    obtain ⟨y, hy⟩ : ∃ y, b.chunks[x] = y := ⟨_, rfl⟩
    rw [hy] at HAT6 HXK HZW hds6 hll HLB hfm HLS HCAP HNEW ⊢
    rw [HNEW.out] at HFST
    clear hm hy HNEW
    generalize headB b.id b.width b.fr b.chunks.length ++ pre.flatMap (itBk b.chunks) = l0 at *
    generalize offAt b.chunks x.1 = off at *
    generalize (f x).1 = A' at *
    generalize (f x).2 = c' at *
    have n0 : W.cell? ⟨w1.heap.size, 0, none⟩ = some (.func (.func 88) #[] #[.pointer (some ⟨w0.heap.size, 0, none⟩)]) := HDS6.out.num.cell 0
    have e0 : W.cell? ⟨Bx, 0, none⟩ = some (.int .i64 y.sig) := HAT6.out.cell 0
    gi_wp2_with fail
    refine ⟨trivial, (CallsIn.inRound l (callsIn_wide.2 (HDS6.out.number y.sig y.sig.toNat (by have := HXK.out.1; omega) (by have := HPRE.out; omega) (by have := HXK.out.1; omega)))).mono ?_⟩
    rintro e W1 ⟨rfl, hd1, ho1, hs1⟩
    obtain ⟨l1, hl1⟩ : ∃ m, m = l0 ++ vE y.sig.toNat := ⟨_, rfl⟩
    rw [← hl1] at hd1 HFST
    have HL1 : Hid (l1.length ≤ 34000010) := Lib.hid (by rw [hl1, List.length_append]; have := HPRE.out; have := vE_len y.sig.toNat; omega)
    have HD1 := Lib.hid hd1
    have HO1 := Lib.hid ho1
    have HS1 := Lib.hid hs1
    have hBx0 : Bx ≠ w0.heap.size := by omega
    have HAT7 := Lib.hid (HAT6.out.ok8 ho1 hBx0 (by decide))
    clear hd1 ho1 hs1 n0 e0 hl1
    have t0 : W1.cell? ⟨w2.heap.size, 0, none⟩ = some (.func (.func 90) #[] #[.pointer (some ⟨w1.heap.size, 0, none⟩), .pointer (some ⟨w0.heap.size, 0, none⟩)]) := HD1.out.text.cell 0
    have e1 : W1.cell? ⟨Bx, 1, none⟩ = some (.slice A' y.labs.length c') := HAT7.out.cell 1
    obtain ⟨t1, ht1⟩ : ∃ m, m = fmtL y.labs := ⟨_, rfl⟩
    rw [← ht1] at hfm HFST
    have HT1 := Lib.hid ht1
    clear ht1
    have hfl : l1.length ≤ 34000010 := HL1.out
    obtain ⟨l2, hl2⟩ : ∃ m, m = l1 ++ vE t1.length ++ t1 := ⟨_, rfl⟩
    have HFMT : Hid (∀ W', Below W1.heap.size W1 W' → Calls Tryz.prog 91 #[.slice A' y.labs.length c'] W' fun e w' => e = .returned (.string (str t1)) ∧ Below W1.heap.size W1 w' ∧ w'.cell? ⟨w2.heap.size, 0, none⟩ = some (.func (.func 90) #[] #[.pointer (some ⟨w1.heap.size, 0, none⟩), .pointer (some ⟨w0.heap.size, 0, none⟩)])) := Lib.hid fun W' hW => by
      have hb1 := HD1.out.bl.below
      have hb2 := hb1.trans (hW.mono hb1.size)
      rw [HT1.out]
      refine (formatL_any A' c' y.labs W' ((HLS.out.below hb2).mono hb2.size) HCAP.out (by omega) (fun z hz => by have := HLB.out z hz; omega)).mono ?_
      rintro e w' ⟨h1, h2⟩
      have h3 := hW.trans (h2.mono hW.size)
      exact ⟨h1, h3, (HD1.out.later h3).text.cell 0⟩
    have HTXT : Hid (∀ W', Below W1.heap.size W1 W' → Calls Tryz.prog 90 #[.string (str t1), .pointer (some ⟨w1.heap.size, 0, none⟩), .pointer (some ⟨w0.heap.size, 0, none⟩)] W' fun e w' => e = .returned (.tuple #[]) ∧ DS w w.heap.size w0.heap.size w1.heap.size w2.heap.size (blC b A c) l2 w' ∧ OK8 w0.heap.size W1 w' ∧ W1.heap.size ≤ w'.heap.size) := Lib.hid fun W' hW => by
      refine ((HD1.out.later hW).txt t1 (by omega) (by omega)).mono ?_
      rintro e w' ⟨h1, h2, h3, h4⟩
      rw [← hl2] at h2
      exact ⟨h1, h2, ok8_trans (ok8_below hW) h3, Nat.le_trans hW.size h4⟩
    rw [← hl2] at HFST
    have HL2 : Hid (l2.length ≤ 34010000) := Lib.hid (by rw [hl2, List.length_append, List.length_append]; have := vE_len t1.length; omega)
    clear hl2
    obtain ⟨t2, ht2⟩ : ∃ m, m = zE y.zone := ⟨_, rfl⟩
    rw [← ht2] at HFST
    have HT2 := Lib.hid ht2
    have HZL : Hid (t2.length ≤ 82) := Lib.hid (by rw [ht2]; exact zE_len _)
    obtain ⟨l3, hl3⟩ : ∃ m, m = l2 ++ vE t2.length ++ t2 := ⟨_, rfl⟩
    obtain ⟨l4, hl4⟩ : ∃ m, m = l3 ++ vE off := ⟨_, rfl⟩
    have HL3 := Lib.hid hl3
    have HL4 := Lib.hid hl4
    have HE3 : Hid (l3.length ≤ 34010200) := Lib.hid (by rw [hl3, List.length_append, List.length_append]; have := vE_len t2.length; have := HL2.out; have := HZL.out; omega)
    have HE4 : Hid (l4.length ≤ 34010300) := Lib.hid (by rw [hl4, List.length_append]; have := vE_len off; have := HE3.out; omega)
    rw [← hl3, ← hl4] at HFST
    clear ht2 hl3 hl4
    have hmx : Tryz.prog.follows .mixedOrders = true := by kernel_rfl
    gi_wp2_with fail
    gi_region_with_o (first | (refine ⟨trivial, ?_⟩; gi_at_call 91; refine (CallsIn.inRound l (callsIn_wide.2 (HFMT.out _ (bN (Below.refl _ _) 1)))).mono ?_; rintro e W2 ⟨rfl, hb2, t0'⟩) | (refine ⟨trivial, ?_⟩; gi_at_call 90; refine (CallsIn.inRound l (callsIn_wide.2 (HTXT.out _ hb2))).mono ?_; rintro e W3 ⟨rfl, hd3, ho3, hs3⟩))
    all_goals
      have HD3 := Lib.hid hd3
      have HO3 := Lib.hid (ok8_trans HO1.out ho3)
      have HS3 := Lib.hid (Nat.le_trans HS1.out hs3)
      have HAT8 := Lib.hid (HAT7.out.ok8 ho3 hBx0 (by decide))
      clear hd3 ho3 hs3
      have hzr := zone_range (range_at HAT8.out)
      rw [Nat.zero_add] at hzr
      have HZR := Lib.hid hzr
      clear hzr
      gi_wp2_with (refine wpListIn_load_mid rfl 50 (.tmp 45) rfl Bx 2 rfl y.zone.cells.toList _ HZR.out Tryz.underlying50 rfl size_zone ?_)
      refine ⟨trivial, (CallsIn.inRound l (callsIn_wide.2 (zencode_any y.zone W3 HXK.out.2.1 HZW.out))).mono ?_⟩
      rintro e W4 ⟨rfl, hb4⟩
      rw [← HT2.out]
      have HD4 := Lib.hid (HD3.out.later hb4)
      have HO4 := Lib.hid (ok8_trans HO3.out (ok8_below hb4))
      have HS4 := Lib.hid (Nat.le_trans HS3.out hb4.size)
      have HAT9 := Lib.hid (HAT8.out.below hb4)
      have t0 : W4.cell? ⟨w2.heap.size, 0, none⟩ = some (.func (.func 90) #[] #[.pointer (some ⟨w1.heap.size, 0, none⟩), .pointer (some ⟨w0.heap.size, 0, none⟩)]) := HD4.out.text.cell 0
      clear hb4
      gi_wp2_with fail
      refine ⟨trivial, (CallsIn.inRound l (callsIn_wide.2 (HD4.out.txt t2 (by have := HL2.out; omega) (by have := HZL.out; omega)))).mono ?_⟩
      rintro e W5 ⟨rfl, hd5, ho5, hs5⟩
      rw [← HL3.out] at hd5
      have HD5 := Lib.hid hd5
      have HO5 := Lib.hid (ok8_trans HO4.out ho5)
      have HS5 := Lib.hid (Nat.le_trans HS4.out hs5)
      have HAT10 := Lib.hid (HAT9.out.ok8 ho5 hBx0 (by decide))
      clear hd5 ho5 hs5 t0
      have n0 : W5.cell? ⟨w1.heap.size, 0, none⟩ = some (.func (.func 88) #[] #[.pointer (some ⟨w0.heap.size, 0, none⟩)]) := HD5.out.num.cell 0
      gi_wp2_with fail
      refine ⟨trivial, (CallsIn.inRound l (callsIn_wide.2 (HD5.out.number _ off rfl (by have := HE3.out; omega) (by omega)))).mono ?_⟩
      rintro e W6 ⟨rfl, hd6, ho6, hs6⟩
      rw [← HL4.out] at hd6
      have HD6 := Lib.hid hd6
      have HO6 := Lib.hid (ok8_trans HO5.out ho6)
      have HS6 := Lib.hid (Nat.le_trans HS5.out hs6)
      have e15 : W6.cell? ⟨Bx, 15, none⟩ = some (.string y.data) := (HAT10.out.ok8 ho6 hBx0 (by decide)).cell 15
      clear hd6 ho6 hs6 n0
      have n0 : W6.cell? ⟨w1.heap.size, 0, none⟩ = some (.func (.func 88) #[] #[.pointer (some ⟨w0.heap.size, 0, none⟩)]) := HD6.out.num.cell 0
      gi_wp2_with fail
      refine ⟨trivial, (CallsIn.inRound l (callsIn_wide.2 (HD6.out.number _ (y.data.size + 4) rfl (by have := HE4.out; omega) (by omega)))).mono ?_⟩
      rintro e W7 ⟨rfl, hd7, ho7, hs7⟩
      have HF7 : Hid (∀ a', ownPostG w9.heap.size (KC w.heap.size w0.heap.size) (fun pre W => DS w w.heap.size w0.heap.size w1.heap.size w2.heap.size (blC b A c) (headB b.id b.width b.fr b.chunks.length ++ pre.flatMap (itBk b.chunks)) W ∧ w9.heap.size ≤ W.heap.size) (fun _ _ _ => False) (pre ++ [x]) W .normal a' W7) := Lib.hid fun a' => HFST.out a' W7 (ok8_trans HO6.out ho7) (Nat.le_trans HS6.out hs7) hd7
      clear hd7 ho7 hs7 n0 e15
      gi_wp2_with fail
      exact HF7.out _
  case done =>
    rintro D W hD ⟨hds, _⟩ hK
    rw [itBk_all] at hds
    have HDSF : Hid (DS w w.heap.size w0.heap.size w1.heap.size w2.heap.size (blC b A c) (bdir b) W) := Lib.hid (by
      have e : bdir b = headB b.id b.width b.fr b.chunks.length ++ (itmFrom 0 b.chunks).flatMap itB := by unfold bdir dirB; rw [itmFrom_len]
      rw [e]
      exact hds)
    have HKD := Lib.hid hK
    clear hds hK
    go_wp2_with fail
    refine (bstringK_any w _ _ W HDSF.out.bl).mono ?_
    rintro e W2 ⟨rfl, hb2, ho2⟩
    have HB2 := Lib.hid hb2
    have HK2 := Lib.hid (defer_ok8 HKD.out ho2 HDSF.out.bl)
    have HD2 : Hid (w.heap.size ≤ D) := Lib.hid (Nat.le_trans hbw hD)
    clear hb2 ho2
    go_wp2_with fail
    refine marks_ret1 HK2.out (results_tmp rfl _ _ _) ⟨rfl, ?_⟩
    exact HB2.out.grown (grownBy_putObj' W2 D (.deferred none)) HB2.out.size (fun k e => by cases e; exact HD2.out)
end Go.Proofs.YtoojpfcnekpboaaGreat
