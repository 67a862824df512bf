/- Blocks: plain Lean: what their files are. Walks: what is larger than the statements examine (labels). Walks: a zone as bytes (the reference's). Walks: a zone without elements as bytes (the reference's); any valid zone. -/
import Derived.Test.YtoojpfcnekpboaaGreatZAJ
import Derived.Test.YtoojpfcnekpboaaGreatZAH
import Derived.Test.YtoojpfcnekpboaaGreatZAO
import Derived.Test.YtoojpfcnekpboaaGreatZAA
import Derived.Test.YtoojpfcnekpboaaGreatZAC
import Derived.Test.YtoojpfcnekpboaaGreatZAM
namespace Go.Proofs.YtoojpfcnekpboaaGreat
open Go.RowKit

structure Itm where
  sig : Int
  labs : List Lab
  zone : Zn
  off : Int
  size : Int
def itmFrom : Int → List Chk → List Itm
  | _, [] => []
  | at_, x :: r => ⟨x.sig, x.labs, x.zone, at_, x.data.size + 4⟩ :: itmFrom (at_ + (x.data.size + 4)) r
/-- Where the chunk at an index begins. -/
def offAt (xs : List Chk) (k : Nat) : Nat := ((xs.take k).map (fun x => x.data.size + 4)).sum
def itB (x : Itm) : List UInt8 := vE x.sig.toNat ++ vE (fmtL x.labs).length ++ fmtL x.labs ++ vE (zE x.zone).length ++ zE x.zone ++ vE x.off.toNat ++ vE x.size.toNat
def magicB : List UInt8 := [76, 75, 66, 49]
def headB (id width fr : Int) (n : Nat) : List UInt8 := magicB ++ vE id.toNat ++ vE width.toNat ++ vE fr.toNat ++ vE n
def dirB (id width fr : Int) (l : List Itm) : List UInt8 := headB id width fr l.length ++ l.flatMap itB
def sealB (l : List UInt8) : List UInt8 := l ++ Crc.ending (Crc.sum l)
def four4 (n : Int) : List UInt8 := le4 n
def bdir (b : Blk) : List UInt8 := dirB b.id b.width b.fr (itmFrom 0 b.chunks)
def datB (b : Blk) : List UInt8 := b.chunks.flatMap (fun x => sealB (bs x.data))
def fileB (b : Blk) : List UInt8 := datB b ++ sealB (bdir b) ++ sealB (four4 (sealB (bdir b)).length)
def encB (b : Blk) : ByteArray × Int := if bchk b = 0 then (str (fileB b), 0) else (⟨#[]⟩, bchk b)
def bgreat (b : Blk) : Bool := b.chunks.any (fun x => greatL x.labs || decide (600 < x.data.size)) || decide (8 < b.chunks.length)
/-- A block that is looked at: not great, its zones' words are words. -/
structure Fine (b : Blk) : Prop where mk ::
  few : b.chunks.length ≤ 8
  data : ∀ x ∈ b.chunks, x.data.size ≤ 600
  labs : ∀ x ∈ b.chunks, x.labs.length ≤ 17
  lab : ∀ x ∈ b.chunks, ∀ y ∈ x.labs, y.name.size ≤ 61 ∧ y.value.size ≤ 201
  zone : ∀ x ∈ b.chunks, ZW x.zone
theorem Fine.of {b : Blk} (h : bgreat b = false) (hz : ∀ x ∈ b.chunks, ZW x.zone) : Fine b := by
  unfold bgreat at h
  rw [Bool.or_eq_false_iff] at h
  obtain ⟨h1, h2⟩ := h
  have h3 : ∀ x ∈ b.chunks, greatL x.labs = false ∧ x.data.size ≤ 600 := fun x hx => by
    have h4 := (List.any_eq_false.1 h1) x hx
    simp only [Bool.or_eq_true, decide_eq_true_eq, not_or] at h4
    exact ⟨by simpa using h4.1, by omega⟩
  have h5 : ∀ x ∈ b.chunks, (∀ y ∈ x.labs, y.name.size ≤ 61 ∧ y.value.size ≤ 201) ∧ x.labs.length ≤ 17 := fun x hx => by
    have h4 := (h3 x hx).1
    unfold greatL at h4
    rw [Bool.or_eq_false_iff] at h4
    refine ⟨fun y hy => ?_, by simpa using h4.2⟩
    have h6 := (List.any_eq_false.1 h4.1) y hy
    simp only [Bool.or_eq_true, decide_eq_true_eq, not_or] at h6
    omega
  exact ⟨by simpa using h2, fun x hx => (h3 x hx).2, fun x hx => (h5 x hx).2, fun x hx => (h5 x hx).1, hz⟩

/-! ### Sizes -/
theorem fmtX_len2 (x : Lab) (h : x.name.size ≤ 61 ∧ x.value.size ≤ 201) : (fmtX x).length ≤ 470 := by
  have h1 := quoB_len (bs x.value)
  rw [bs_length] at h1
  unfold fmtX
  simp only [List.length_append, List.length_cons, List.length_nil, bs_length]
  omega
theorem fmtMore_len2 : ∀ (r : List Lab), (∀ x ∈ r, x.name.size ≤ 61 ∧ x.value.size ≤ 201) → (fmtMore r).length ≤ 471 * r.length
  | [], _ => by simp [fmtMore]
  | x :: r, h => by
    have h1 := fmtX_len2 x (h x List.mem_cons_self)
    have h2 := fmtMore_len2 r (fun y hy => h y (List.mem_cons_of_mem _ hy))
    unfold fmtMore
    simp only [List.length_append, List.length_cons]
    omega
theorem fmtL_len2 (ls : List Lab) (hl : ls.length ≤ 17) (h : ∀ x ∈ ls, x.name.size ≤ 61 ∧ x.value.size ≤ 201) : (fmtL ls).length ≤ 8100 := by
  cases ls with
  | nil => unfold fmtL fmtIn; simp
  | cons x r =>
    have h1 := fmtX_len2 x (h x List.mem_cons_self)
    have h2 := fmtMore_len2 r (fun y hy => h y (List.mem_cons_of_mem _ hy))
    simp only [List.length_cons] at hl
    unfold fmtL fmtIn
    simp only [List.length_append, List.length_cons, List.length_nil]
    omega
theorem itB_len (x : Itm) (h : (fmtL x.labs).length ≤ 8100) : (itB x).length ≤ 8300 := by
  have h1 := vE_len x.sig.toNat
  have h2 := vE_len (fmtL x.labs).length
  have h3 := vE_len (zE x.zone).length
  have h4 := zE_len x.zone
  have h5 := vE_len x.off.toNat
  have h6 := vE_len x.size.toNat
  unfold itB
  simp only [List.length_append]
  omega
theorem itmFrom_len : ∀ (a : Int) (xs : List Chk), (itmFrom a xs).length = xs.length
  | _, [] => rfl
  | a, x :: r => by unfold itmFrom; simp [itmFrom_len _ r]
theorem itmFrom_mem : ∀ (a : Int) (xs : List Chk) (y : Itm), y ∈ itmFrom a xs → ∃ x ∈ xs, y.sig = x.sig ∧ y.labs = x.labs ∧ y.zone = x.zone ∧ y.size = x.data.size + 4
  | _, [], y, h => by simp [itmFrom] at h
  | a, x :: r, y, h => by
    unfold itmFrom at h
    rcases List.mem_cons.1 h with rfl | h
    · exact ⟨x, List.mem_cons_self, rfl, rfl, rfl, rfl⟩
    · obtain ⟨z, h1, h2⟩ := itmFrom_mem _ r y h
      exact ⟨z, List.mem_cons_of_mem _ h1, h2⟩
theorem itms_len : ∀ (l : List Itm), (∀ x ∈ l, (itB x).length ≤ 8300) → (l.flatMap itB).length ≤ 8300 * l.length
  | [], _ => by simp
  | x :: r, h => by
    have h1 := h x List.mem_cons_self
    have h2 := itms_len r (fun y hy => h y (List.mem_cons_of_mem _ hy))
    simp only [List.flatMap_cons, List.length_append, List.length_cons]
    omega
theorem headB_len (id width fr : Int) (n : Nat) : (headB id width fr n).length ≤ 44 := by
  have h1 := vE_len id.toNat
  have h2 := vE_len width.toNat
  have h3 := vE_len fr.toNat
  have h4 := vE_len n
  unfold headB magicB
  simp only [List.length_append, List.length_cons, List.length_nil]
  omega
theorem Fine.item {b : Blk} (h : Fine b) {a : Int} {y : Itm} (hy : y ∈ itmFrom a b.chunks) : (fmtL y.labs).length ≤ 8100 := by
  obtain ⟨x, hx, _, h2, _, _⟩ := itmFrom_mem _ _ _ hy
  rw [h2]
  exact fmtL_len2 _ (h.labs x hx) (h.lab x hx)
theorem Fine.dir {b : Blk} (h : Fine b) : (bdir b).length ≤ 66500 := by
  have h1 := headB_len b.id b.width b.fr (itmFrom 0 b.chunks).length
  have h2 := itms_len (itmFrom 0 b.chunks) (fun x hx => itB_len x (h.item hx))
  rw [itmFrom_len] at h2
  have h3 := h.few
  unfold bdir dirB
  rw [List.length_append]
  omega
theorem sealB_len (l : List UInt8) : (sealB l).length = l.length + 4 := by unfold sealB; rw [List.length_append]; rfl
theorem dat_len : ∀ (xs : List Chk), (∀ x ∈ xs, x.data.size ≤ 600) → (xs.flatMap (fun x => sealB (bs x.data))).length ≤ 604 * xs.length
  | [], _ => by simp
  | x :: r, h => by
    have h1 := h x List.mem_cons_self
    have h2 := dat_len r (fun y hy => h y (List.mem_cons_of_mem _ hy))
    simp only [List.flatMap_cons, List.length_append, List.length_cons, sealB_len, bs_length]
    omega
theorem Fine.dat {b : Blk} (h : Fine b) : (datB b).length ≤ 4832 := by
  have h1 := dat_len b.chunks h.data
  have h2 := h.few
  unfold datB
  omega
theorem Fine.file {b : Blk} (h : Fine b) : (fileB b).length ≤ 71400 := by
  have h1 := h.dat
  have h2 := h.dir
  unfold fileB
  rw [List.length_append, List.length_append, sealB_len, sealB_len]
  show _ + (_ + 4) + (4 + 4) ≤ _
  omega
/-- A block that may be encoded: more than Fine, bounded by its file. -/
structure Mid (b : Blk) : Prop where mk ::
  few : b.chunks.length ≤ 4000
  data : ∀ x ∈ b.chunks, x.data.size ≤ 71400
  labs : ∀ x ∈ b.chunks, x.labs.length ≤ 17
  lab : ∀ x ∈ b.chunks, ∀ y ∈ x.labs, y.name.size ≤ 61 ∧ y.value.size ≤ 201
  zone : ∀ x ∈ b.chunks, ZW x.zone
  file : (fileB b).length ≤ 71400
theorem Fine.mid {b : Blk} (h : Fine b) : Mid b := ⟨by have := h.few; omega, fun x hx => by have := h.data x hx; omega, h.labs, h.lab, h.zone, h.file⟩
theorem Mid.parts {b : Blk} (h : Mid b) : (datB b).length + ((bdir b).length + 4) + 8 ≤ 71400 := by
  have h1 := h.file
  unfold fileB at h1
  rw [List.length_append, List.length_append, sealB_len, sealB_len] at h1
  have h2 : (datB b).length + ((bdir b).length + 4) + (4 + 4) ≤ 71400 := h1
  omega
end Go.Proofs.YtoojpfcnekpboaaGreat

namespace Go.Proofs.YtoojpfcnekpboaaGreat
open Go.RowKit

theorem greatL_step {ls : List Lab} {k : Nat} (h : k < ls.length) : (ls.drop k).any (fun x => decide (61 < x.name.size) || decide (201 < x.value.size)) = ((decide (61 < (ls[k]).name.size) || decide (201 < (ls[k]).value.size)) || (ls.drop (k + 1)).any (fun x => decide (61 < x.name.size) || decide (201 < x.value.size))) := by
  rw [drop_cons h]
  rfl
theorem greatL_end {ls : List Lab} {k : Nat} (h : ls.length ≤ k) : (ls.drop k).any (fun x => decide (61 < x.name.size) || decide (201 < x.value.size)) = false := by
  rw [List.drop_eq_nil_of_le h]
  rfl
theorem greatL_no {ls : List Lab} (h : greatL ls = false) : ls.length ≤ 17 ∧ ∀ x ∈ ls, x.name.size ≤ 61 ∧ x.value.size ≤ 201 := by
  unfold greatL at h
  rw [Bool.or_eq_false_iff] at h
  obtain ⟨h1, h2⟩ := h
  refine ⟨by simpa using h2, fun x hx => ?_⟩
  have := List.any_eq_false.1 h1 x hx
  simp at this
  omega
set_option maxRecDepth 100000 in
set_option maxHeartbeats 2000000 in
theorem great05_any (A : Option Addr) (c : Nat) (ls : List Lab) (B : Nat) (w : World) (hr : LabsIn B w A ls) (hc : ls.length ≤ c) (hl : ls.length ≤ 9223372036854775807) :
    Calls Tryz.prog 37 #[.slice A ls.length c] w fun e w' => e = .returned (.bool (greatL ls)) ∧ w' = w := by
  have HC := Lib.hid hc
  have HRD := Lib.hid hr
  clear hc hr
  go_enter Tryz.func37, Tryz.ntmps37
  go_wp2_with fail
  go_loop [3] (fun i => ∃ k : Nat, k ≤ ls.length ∧ i = .int .i64 k ∧ Hid (greatL ls = ((ls.drop k).any (fun x => decide (61 < x.name.size) || decide (201 < x.value.size)) || decide (17 < ls.length)))) (fun i => ls.length - (intOf i).toNat)
  case atStart => exact ⟨0, Nat.zero_le _, rfl, Lib.hid rfl⟩
  case round =>
    obtain ⟨k, hk, rfl, HK⟩ := hrel
    by_cases hlt : k < ls.length
    · have HST := Lib.hid (greatL_step hlt)
      obtain ⟨b, o, rfl, _, c0, c1⟩ := HRD.out.at_ k hlt
      by_cases h1 : 61 < (ls[k]).name.size
      · have HR : Hid (greatL ls = true) := Lib.hid (by rw [HK.out, HST.out, decide_eq_true h1]; rfl)
        go_wp2_with fail
        go_ret
        exact ⟨ret_bool HR.out.symm, rfl⟩
      · by_cases h2 : 201 < (ls[k]).value.size
        · have HR : Hid (greatL ls = true) := Lib.hid (by rw [HK.out, HST.out, decide_eq_true h2, Bool.or_true]; rfl)
          go_wp2_with fail
          go_ret
          exact ⟨ret_bool HR.out.symm, rfl⟩
        · have HR : Hid (greatL ls = ((ls.drop (k + 1)).any (fun x => decide (61 < x.name.size) || decide (201 < x.value.size)) || decide (17 < ls.length))) := Lib.hid (by rw [HK.out, HST.out, decide_eq_false h1, decide_eq_false h2]; rfl)
          go_wp2_with fail
          go_round
          case rel => exact ⟨k + 1, by omega, by go_num, HR⟩
          case measure => simp [intOf]; omega
    · have HR : Hid (greatL ls = decide (17 < ls.length)) := Lib.hid (by rw [HK.out, greatL_end (Nat.le_of_not_lt hlt)]; rfl)
      by_cases h17 : 17 < ls.length
      · go_wp2_with fail
        go_ret
        exact ⟨ret_bool (by first | exact HR.out.symm | (rw [HR.out]; done) | (rw [HR.out, Bool.eq_iff_iff]; simp; done) | (rw [HR.out, Bool.eq_iff_iff]; simp; omega)), rfl⟩
      · go_wp2_with fail
        go_ret
        exact ⟨ret_bool (by first | exact HR.out.symm | (rw [HR.out]; done) | (rw [HR.out, Bool.eq_iff_iff]; simp; done) | (rw [HR.out, Bool.eq_iff_iff]; simp; omega)), rfl⟩
end Go.Proofs.YtoojpfcnekpboaaGreat

namespace Go.Proofs.YtoojpfcnekpboaaGreat
open Go.RowKit

theorem conv1 (n : Int) (w : World) : (convert 104 9 (.slice (some ⟨w.heap.size, 0, none⟩) 1 1)).run Tryz.prog (w.alloc (.cells #[.int .u8 n] 5)) = .ok (.string (strOfNums [n])) (w.alloc (.cells #[.int .u8 n] 5)) := by
  refine run_convert_bytes_arg _ 104 5 Tryz.underlying104 Tryz.underlying5 _ 0 1 1 [n] rfl (fun i hi => ?_) 9 Tryz.underlying9
  rw [cell_of_row _ _ _ _ 5 (0, 0) (heap_alloc_new w _)]
  rcases i with _ | i
  · rfl
  · omega
theorem nums1 (n : Int) : strOfNums [n] = str [UInt8.ofNat n.toNat] := rfl
theorem below2 {W w : World} (h : Below W.heap.size W w) (o : Obj) : Below W.heap.size W (w.alloc o) := h.alloc h.size o
def shx (x : Int) : Nat → Int
  | 0 => x
  | k + 1 => shx x k / 256
theorem shx_bd {x : Int} (h0 : 0 ≤ x) (h1 : x < 4294967296) : ∀ k, 0 ≤ shx x k ∧ shx x k < 4294967296
  | 0 => ⟨h0, h1⟩
  | k + 1 => by
    have := shx_bd h0 h1 k
    show 0 ≤ shx x k / 256 ∧ shx x k / 256 < 4294967296
    omega
theorem le4_step {x : Int} {k : Nat} (h : k < 4) : str ((le4 x).take (k + 1)) = str ((le4 x).take k) ++ str [UInt8.ofNat (shx x k % 256).toNat] := by
  rw [← str_append]
  congr 1
  have e1 : x / 65536 = x / 256 / 256 := by omega
  have e2 : x / 16777216 = x / 256 / 256 / 256 := by omega
  unfold le4
  rw [e1, e2]
  rcases k with _ | _ | _ | _ | k
  · rfl
  · rfl
  · rfl
  · rfl
  · omega
set_option maxRecDepth 100000 in
set_option maxHeartbeats 2000000 in
theorem word16_any (x : Int) (w : World) (h0 : 0 ≤ x) (h1 : x < 4294967296) :
    Calls Tryz.prog 165 #[.int .u32 x] w fun e w' => e = .returned (.string (str (le4 x))) ∧ Below w.heap.size w w' := by
  have H0 := Lib.hid h0
  have H1 := Lib.hid h1
  clear h0 h1
  go_enter Tryz.func165, Tryz.ntmps165
  go_wp2_with fail
  go_loopw [0, 3, 4] (fun r o i wr => ∃ k : Nat, k ≤ 4 ∧ i = .int .i64 k ∧ r = .int .u32 (shx x k) ∧ o = .string (str ((le4 x).take k)) ∧ Below w.heap.size w wr) (fun _ _ i _ => 4 - (intOf i).toNat)
  case atStart => exact ⟨0, Nat.zero_le _, rfl, rfl, rfl, Below.refl _ _⟩
  case round =>
    obtain ⟨k, hk, rfl, rfl, rfl, hb⟩ := hrel
    have HB := Lib.hid hb
    clear hb
    by_cases hlt : k < 4
    · have HST := Lib.hid (le4_step (x := x) hlt)
      obtain ⟨g0, g1⟩ := shx_bd H0.out H1.out k
      have HS : Hid (shx x (k + 1) = shx x k / 256) := Lib.hid rfl
      have hsz : (str ((le4 x).take k)).size ≤ 4 := by rw [str_size, List.length_take]; show min k 4 ≤ 4; omega
      generalize shx x k = y at *
      generalize str ((le4 x).take k) = s at *
      have k1 := conv1 (y % 256) wr
      rw [nums1] at k1
      have hz : (str [UInt8.ofNat (y % 256).toNat]).size = 1 := rfl
      have HZ := Lib.hid hz
      generalize hV : str [UInt8.ofNat (y % 256).toNat] = V at *
      have kk : ¬ 9223372036854775807 < s.size + V.size := by omega
      clear hz hV
      go_wp2_with fail
      go_roundw
      case rel => exact ⟨k + 1, by omega, by go_num, by rw [HS.out], by rw [HST.out], HB.out.alloc HB.out.size _⟩
      case measure => simp [intOf]; omega
    · obtain rfl : k = 4 := by omega
      go_wp2_with fail
      go_ret
      exact ⟨rfl, HB.out⟩

set_option maxRecDepth 100000 in
set_option maxHeartbeats 8000000 in
theorem zencode16_ok (z : Zn) (w : World) (hz : ZOK z) (hw : ∀ i, i < 8 → 0 ≤ z.words.getD i 0 ∧ z.words.getD i 0 < 4294967296) (hzE : zE z = vE z.count.toNat ++ vE z.minT.toNat ++ vE (z.maxT - z.minT).toNat ++ vE (zig z.minV) ++ vE (z.maxV - z.minV).toNat ++ z.words.flatMap le4) :
    Calls Tryz.prog 135 #[.agg z.cells] w fun e w' => e = .returned (.tuple #[.string (str (zE z)), .int .i64 0]) ∧ Below w.heap.size w w' := by
  have HZ := Lib.hid hz
  have HW := Lib.hid hw
  have HZE := Lib.hid hzE
  have HCH := Lib.hid (fun w => zcheck16_any z w)
  have HC0 := Lib.hid hz.chk
  have hat := At.new w z.cells 50
  have HB0 : Hid (Below w.heap.size w (w.alloc (.cells z.cells 50))) := Lib.hid ((Below.refl _ _).alloc (Nat.le_refl _) _)
  have HAT := Lib.hid hat
  clear hat hz hw hzE
  go_enter Tryz.func135, Tryz.ntmps135
  go_upto_region 1 with fail
  generalize w.alloc (.cells z.cells 50) = w0 at *
  go_wp2_with (refine wpList_load_row rfl 50 (.tmp 1) rfl w.heap.size rfl 50 z.cells (0, 0) _ HAT.out.out Tryz.underlying50 rfl rfl ?_)
  refine (HCH.out _).mono ?_
  rintro e w1 ⟨rfl, hb⟩
  have HAT1 := Lib.hid (HAT.out.below hb)
  have HB1 := Lib.hid (HB0.out.trans (hb.mono HB0.out.size))
  rw [HC0.out]
  obtain ⟨c0, c1, c2, c3, c4⟩ := ZAt.of HAT1.out
  clear hb HAT HB0 HCH
  go_wp2_with fail
  refine (appendL01_any [] z.count _ (by have := HZ.out.n0; omega) HZ.out.n1 (by decide)).mono ?_
  rintro e w2 ⟨rfl, hb⟩
  have HAT2 := Lib.hid (HAT1.out.below hb)
  have HB2 := Lib.hid (HB1.out.trans (hb.mono HB1.out.size))
  clear hb HAT1 HB1 c0 c1 c2 c3 c4
  obtain ⟨c0, c1, c2, c3, c4⟩ := ZAt.of HAT2.out
  have d0 : (z.count == 0) = false := beq_eq_false_iff_ne.2 (by have := HZ.out.n0; omega)
  obtain ⟨l2, hl2⟩ : ∃ l, l = [] ++ vE z.count.toNat := ⟨_, rfl⟩
  rw [← hl2]
  have HE2 := Lib.hid hl2
  have HN2 : Hid (l2.length ≤ 10) := Lib.hid (by rw [hl2]; exact vE_len _)
  clear hl2
  go_wp2_with fail
  refine (appendL01_any l2 z.minT _ (by have := HZ.out.t0; omega) (by have := HZ.out.t1; have := HZ.out.t2; omega) (by have := HN2.out; omega)).mono ?_
  rintro e w3 ⟨rfl, hb⟩
  have HAT3 := Lib.hid (HAT2.out.below hb)
  have HB3 := Lib.hid (HB2.out.trans (hb.mono HB2.out.size))
  clear hb HAT2 HB2 c0 c1 c2 c3 c4
  obtain ⟨c0, c1, c2, c3, c4⟩ := ZAt.of HAT3.out
  obtain ⟨l3, hl3⟩ : ∃ l, l = l2 ++ vE z.minT.toNat := ⟨_, rfl⟩
  rw [← hl3]
  have HE3 := Lib.hid hl3
  have HN3 : Hid (l3.length ≤ 20) := Lib.hid (by have h1 := vE_len z.minT.toNat; have h2 := HN2.out; rw [hl3, List.length_append]; omega)
  have e3' : wrap64 (z.maxT - z.minT) = z.maxT - z.minT := by have := HZ.out.t0; have := HZ.out.t1; have := HZ.out.t2; unfold wrap64; omega
  clear hl3
  go_wp2_with fail
  refine (appendL01_any l3 (z.maxT - z.minT) _ (by have := HZ.out.t1; omega) (by have := HZ.out.t0; have := HZ.out.t1; have := HZ.out.t2; omega) (by have := HN3.out; omega)).mono ?_
  rintro e w4 ⟨rfl, hb⟩
  have HAT4 := Lib.hid (HAT3.out.below hb)
  have HB4 := Lib.hid (HB3.out.trans (hb.mono HB3.out.size))
  clear hb HAT3 HB3 c0 c1 c2 c3 c4 e3'
  obtain ⟨c0, c1, c2, c3, c4⟩ := ZAt.of HAT4.out
  obtain ⟨l4, hl4⟩ : ∃ l, l = l3 ++ vE (z.maxT - z.minT).toNat := ⟨_, rfl⟩
  rw [← hl4]
  have HE4 := Lib.hid hl4
  have HN4 : Hid (l4.length ≤ 30) := Lib.hid (by have h1 := vE_len (z.maxT - z.minT).toNat; have h2 := HN3.out; rw [hl4, List.length_append]; omega)
  clear hl4
  go_wp2_with fail
  refine (appendSL01_any l4 z.minV _ (by have := HZ.out.v0; omega) (by have := HZ.out.v1; have := HZ.out.v2; omega) (by have := HN4.out; omega)).mono ?_
  rintro e w5 ⟨rfl, hb⟩
  have HAT5 := Lib.hid (HAT4.out.below hb)
  have HB5 := Lib.hid (HB4.out.trans (hb.mono HB4.out.size))
  clear hb HAT4 HB4 c0 c1 c2 c3 c4
  obtain ⟨c0, c1, c2, c3, c4⟩ := ZAt.of HAT5.out
  obtain ⟨l5, hl5⟩ : ∃ l, l = l4 ++ vE (zig z.minV) := ⟨_, rfl⟩
  rw [← hl5]
  have HE5 := Lib.hid hl5
  have HN5 : Hid (l5.length ≤ 40) := Lib.hid (by have h1 := vE_len (zig z.minV); have h2 := HN4.out; rw [hl5, List.length_append]; omega)
  have e3' : wrap64 (z.maxV - z.minV) = z.maxV - z.minV := by have := HZ.out.v0; have := HZ.out.v1; have := HZ.out.v2; unfold wrap64; omega
  clear hl5
  go_wp2_with fail
  refine (appendL01_any l5 (z.maxV - z.minV) _ (by have := HZ.out.v1; omega) (by have := HZ.out.v0; have := HZ.out.v1; have := HZ.out.v2; omega) (by have := HN5.out; omega)).mono ?_
  rintro e w6 ⟨rfl, hb⟩
  have HAT6 := Lib.hid (HAT5.out.below hb)
  have HB6 := Lib.hid (HB5.out.trans (hb.mono HB5.out.size))
  clear hb HAT5 HB5 c0 c1 c2 c3 c4 e3'
  obtain ⟨l6, hl6⟩ : ∃ l, l = l5 ++ vE (z.maxV - z.minV).toNat := ⟨_, rfl⟩
  rw [← hl6]
  have HE6 := Lib.hid hl6
  have HN6 : Hid (l6.length ≤ 50) := Lib.hid (by have h1 := vE_len (z.maxV - z.minV).toNat; have h2 := HN5.out; rw [hl6, List.length_append]; omega)
  have HZ2 : Hid (zE z = l6 ++ z.words.flatMap le4) := Lib.hid (by rw [HZE.out, hl6, HE5.out, HE4.out, HE3.out, HE2.out]; simp)
  have HS0 : Hid (str l6 = str (l6 ++ (z.words.take 0).flatMap le4)) := Lib.hid (by simp)
  clear hl6 HE2 HE3 HE4 HE5 HE6 HN2 HN3 HN4 HN5
  go_wp2_with fail
  go_loopw [4, 6] (fun s i wr => ∃ k : Nat, k ≤ 8 ∧ i = .int .i64 k ∧ s = .string (str (l6 ++ (z.words.take k).flatMap le4)) ∧ At wr w.heap.size z.cells 50 ∧ Below w.heap.size w wr) (fun _ i _ => 8 - (intOf i).toNat)
  case atStart => exact ⟨0, Nat.zero_le _, rfl, by rw [HS0.out], HAT6.out, HB6.out⟩
  case round =>
    obtain ⟨k, hk, rfl, rfl, hat, hb⟩ := hrel
    have HATR := Lib.hid hat
    have HBR := Lib.hid hb
    clear hb hat HAT6 HB6
    by_cases hlt : k < 8
    · have HST := Lib.hid (word_step (z := z) hlt)
      obtain ⟨hx0, hx1⟩ := HW.out k hlt
      have hc : wr.cell? ⟨w.heap.size, 5 + k, none⟩ = some (.int .u32 (z.words.getD k 0)) := by
        rw [HATR.out.cell]
        rcases k with _ | _ | _ | _ | _ | _ | _ | _ | k
        · rfl
        · rfl
        · rfl
        · rfl
        · rfl
        · rfl
        · rfl
        · rfl
        · omega
      have hsz : (str (l6 ++ (z.words.take k).flatMap le4)).size ≤ 82 := by rw [str_size, List.length_append]; have := words_len z k; have := HN6.out; omega
      have HV : Hid (str (l6 ++ (z.words.take (k + 1)).flatMap le4) = str (l6 ++ (z.words.take k).flatMap le4) ++ str (le4 (z.words.getD k 0))) := Lib.hid (by rw [HST.out, ← List.append_assoc, str_append])
      have hvz : (str (le4 (z.words.getD k 0))).size = 4 := rfl
      have HWD := Lib.hid (fun w => word16_any (z.words.getD k 0) w hx0 hx1)
      generalize z.words.getD k 0 = x at *
      generalize str (l6 ++ (z.words.take k).flatMap le4) = s at *
      generalize hVV : str (le4 x) = V at *
      have kk : ¬ 9223372036854775807 < s.size + V.size := by omega
      clear hvz hVV
      go_wp2_with fail
      refine (HWD.out _).mono ?_
      rintro e w' ⟨rfl, hb⟩
      have HATQ := Lib.hid (HATR.out.below hb)
      have HBQ := Lib.hid (HBR.out.trans (hb.mono HBR.out.size))
      clear hb hc
      go_wp2_with fail
      go_roundw
      case rel => exact ⟨k + 1, by omega, by go_num, by rw [HV.out], HATQ.out, HBQ.out⟩
      case measure => simp [intOf]; omega
    · obtain rfl : k = 8 := by omega
      have HTK : Hid (str (l6 ++ (z.words.take 8).flatMap le4) = str (zE z)) := Lib.hid (by rw [HZ2.out]; rfl)
      rw [HTK.out]
      go_wp2_with fail
      go_ret2
      exact ⟨rfl, HBR.out⟩
end Go.Proofs.YtoojpfcnekpboaaGreat

namespace Go.Proofs.YtoojpfcnekpboaaGreat
open Go.RowKit

set_option maxRecDepth 100000 in
set_option maxHeartbeats 2000000 in
theorem zencode16_zero (w : World) :
    Calls Tryz.prog 135 #[.agg Zn.zero.cells] w fun e w' => e = .returned (.tuple #[.string (str (zE Zn.zero)), .int .i64 0]) ∧ Below w.heap.size w w' := by
  have HCH := Lib.hid (fun w => zcheck16_any Zn.zero w)
  have HC0 := Lib.hid zero_chk
  have hat := At.new w Zn.zero.cells 50
  have HB0 : Hid (Below w.heap.size w (w.alloc (.cells Zn.zero.cells 50))) := Lib.hid ((Below.refl _ _).alloc (Nat.le_refl _) _)
  have HAT := Lib.hid hat
  clear hat
  go_enter Tryz.func135, Tryz.ntmps135
  go_upto_region 1 with fail
  generalize w.alloc (.cells Zn.zero.cells 50) = w0 at *
  go_wp2_with (refine wpList_load_row rfl 50 (.tmp 1) rfl w.heap.size rfl 50 Zn.zero.cells (0, 0) _ HAT.out.out Tryz.underlying50 rfl rfl ?_)
  refine (HCH.out _).mono ?_
  rintro e w1 ⟨rfl, hb⟩
  have HAT1 := Lib.hid (HAT.out.below hb)
  have HB1 := Lib.hid (HB0.out.trans (hb.mono HB0.out.size))
  rw [HC0.out]
  have c0 : w1.cell? ⟨w.heap.size, 0, none⟩ = some (.int .i64 0) := HAT1.out.cell 0
  clear hb HAT HB0 HCH
  go_wp2_with fail
  refine (appendL01_any [] 0 _ (by decide) (by decide) (by decide)).mono ?_
  rintro e w2 ⟨rfl, hb⟩
  have c0 : w2.cell? ⟨w.heap.size, 0, none⟩ = some (.int .i64 0) := (HAT1.out.below hb).cell 0
  have HB2 := Lib.hid (HB1.out.trans (hb.mono HB1.out.size))
  clear hb
  obtain ⟨s, hs⟩ : ∃ s, s = str ([] ++ vE (0 : Int).toNat) := ⟨_, rfl⟩
  have HS : Hid (str (zE Zn.zero) = s) := Lib.hid (by rw [hs]; rfl)
  rw [← hs]
  clear hs
  go_wp2_with fail
  go_ret2
  exact ⟨by rw [HS.out]; rfl, HB2.out⟩
theorem zencode16_any (z : Zn) (w : World) (hz : zchk z = 0) (hw : ZW z) :
    Calls Tryz.prog 135 #[.agg z.cells] w fun e w' => e = .returned (.tuple #[.string (str (zE z)), .int .i64 0]) ∧ Below w.heap.size w w' := by
  rcases zchk_zero hz with rfl | h
  · exact zencode16_zero w
  · exact zencode16_ok z w h hw (zE_more h)
end Go.Proofs.YtoojpfcnekpboaaGreat
