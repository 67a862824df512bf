/- The walks of Seal and Open. -/
import Derived.Test.YthejhofnoolpcaaWkJ
import Derived.Deep.RegionWith
namespace Go.Proofs.Ythejhofnoolpcaa
open Go.RowKit Crc

/-- A string of these bytes. -/
def str (l : List UInt8) : ByteArray := ⟨l.toArray⟩
theorem str_size (l : List UInt8) : (str l).size = l.length := rfl
theorem bs_str (l : List UInt8) : bs (str l) = l := rfl
theorem str_bs (s : ByteArray) : str (bs s) = s := rfl
theorem ending_str_any (x : BitVec 32) (w : World) :
    Calls Try.prog 33 #[.int .u32 (u x)] w fun e w' => e = .returned (.string (str (ending x))) ∧ Below w.heap.size w w' := ending_any x w
theorem str_append (s : ByteArray) (m : List UInt8) : s ++ str m = str (bs s ++ m) := by
  apply ByteArray.ext
  rw [ByteArray.data_append]
  simp [str, bs]
theorem no_room (n : Nat) (x : BitVec 32) (h : n ≤ 100000) : ¬ 9223372036854775807 < n + (str (ending x)).size := by
  rw [str_size]
  have : (ending x).length = 4 := rfl
  omega
theorem ret_str {a b : ByteArray} (h : a = b) : Ending.returned (.string a) = .returned (.string b) := by rw [h]

set_option maxHeartbeats 400000 in
theorem seal_any (s : ByteArray) (hs : s.size ≤ 100000) (w : World) :
    Calls Try.prog 21 #[.string s] w fun e w' => e = .returned (.string (str (bs s ++ ending (sum (bs s))))) ∧ Below w.heap.size w w' := by
  have hs2 : s.size ≤ maxLen := by unfold maxLen; omega
  go_enter Try.func21, Try.ntmps21
  go_wp2_with fail
  refine (sum_any s hs2 _).mono ?_
  rintro e w1 ⟨rfl, hb⟩
  go_wp2_with fail
  refine (ending_str_any _ _).mono ?_
  rintro e w2 ⟨rfl, hb2⟩
  have hn := no_room s.size (sum (bs s)) hs
  go_wp2_with fail
  go_ret
  exact ⟨ret_str (str_append _ _), hb.trans (hb2.mono hb.size)⟩

/-- What is sealed in a string, and its last four bytes. -/
def body (s : ByteArray) : ByteArray := s.extract 0 (s.size - 4)
def tail4 (s : ByteArray) : ByteArray := s.extract (s.size - 4) s.size
def Whole (s : ByteArray) : Prop := tail4 s = str (ending (sum (bs (body s))))
theorem str_eq {a b : ByteArray} (h : a.toList = b.toList) : a = b := by
  rw [ByteArray.toList_eq, ByteArray.toList_eq] at h
  exact ByteArray.ext (Array.toList_inj.1 h)
theorem differ {a b : ByteArray} (h : ¬ a = b) : (!a.toList == b.toList) = true := by
  have : ¬ a.toList = b.toList := fun e => h (str_eq e)
  simp [this]
theorem same {a b : ByteArray} (h : a = b) : (!a.toList == b.toList) = false := by
  simp [h]
theorem body_size (s : ByteArray) : (body s).size = s.size - 4 := by unfold body; rw [ByteArray.size_extract]; omega

set_option maxHeartbeats 400000 in
theorem open_short (s : ByteArray) (h4 : s.size < 4) (w : World) :
    Calls Try.prog 19 #[.string s] w fun e w' => e = .returned (.tuple #[.string ⟨#[]⟩, .int .i64 11]) ∧ Below w.heap.size w w' := by
  go_enter Try.func19, Try.ntmps19
  go_wp2_with fail
  go_ret2
  exact ⟨rfl, Below.refl _ _⟩

set_option maxHeartbeats 400000 in
theorem open_good (s : ByteArray) (hs : s.size ≤ 100000) (h4 : 4 ≤ s.size) (hg : Whole s) (w : World) :
    Calls Try.prog 19 #[.string s] w fun e w' => e = .returned (.tuple #[.string (body s), .int .i64 0]) ∧ Below w.heap.size w w' := by
  have d1 := same hg
  go_enter Try.func19, Try.ntmps19
  go_wp2_with fail
  have h0 : s.extract 0 (s.size - 4) = body s := rfl
  rw [h0]
  clear h0
  have htl := body_size s
  have hte : s.extract (s.size - 4) s.size = tail4 s := rfl
  rw [← htl] at hte
  have HTL := Lib.hid htl
  have hle : (body s).size ≤ s.size := by omega
  clear htl hg
  have HC := fun W => Lib.hid (sum_any (body s) (by unfold maxLen; omega) W)
  generalize hT : body s = t at *
  have HT := Lib.hid hT
  clear hT
  go_region_with (first | (go_at_call 12; refine ((HC _).out).mono ?_; rintro e w1 ⟨rfl, hb⟩) | (go_at_call 33; refine (ending_str_any _ _).mono ?_; rintro e w2 ⟨rfl, hb2⟩))
  go_wp2_with fail
  go_ret2
  exact ⟨by rw [HT.out]; rfl, (below_drawn hb).trans (hb2.mono hb.size)⟩

set_option maxHeartbeats 400000 in
theorem open_bad (s : ByteArray) (hs : s.size ≤ 100000) (h4 : 4 ≤ s.size) (hg : ¬ Whole s) (w : World) :
    Calls Try.prog 19 #[.string s] w fun e w' => e = .returned (.tuple #[.string ⟨#[]⟩, .int .i64 13]) ∧ Below w.heap.size w w' := by
  have d1 := differ hg
  go_enter Try.func19, Try.ntmps19
  go_wp2_with fail
  have h0 : s.extract 0 (s.size - 4) = body s := rfl
  rw [h0]
  clear h0
  have htl := body_size s
  have hte : s.extract (s.size - 4) s.size = tail4 s := rfl
  rw [← htl] at hte
  have HTL := Lib.hid htl
  have hle : (body s).size ≤ s.size := by omega
  clear htl hg
  have HC := fun W => Lib.hid (sum_any (body s) (by unfold maxLen; omega) W)
  generalize hT : body s = t at *
  have HT := Lib.hid hT
  clear hT
  go_region_with (first | (go_at_call 12; refine ((HC _).out).mono ?_; rintro e w1 ⟨rfl, hb⟩) | (go_at_call 33; refine (ending_str_any _ _).mono ?_; rintro e w2 ⟨rfl, hb2⟩))
  go_wp2_with fail
  go_ret2
  exact ⟨rfl, (below_drawn hb).trans (hb2.mono hb.size)⟩

set_option maxHeartbeats 400000 in
theorem sealR_any (s : ByteArray) (hs : s.size ≤ 100000) (w : World) :
    Calls Try.prog 22 #[.string s] w fun e w' => e = .returned (.string (str (bs s ++ ending (sum (bs s))))) ∧ Below w.heap.size w w' := by
  have hs2 : s.size ≤ maxLen := by unfold maxLen; omega
  have hcv := conv4 (u (sum (bs s)) % 256) (u (sum (bs s)) / 256 % 256) (u (sum (bs s)) / 65536 % 256) (u (sum (bs s)) / 16777216 % 256) w
  have he : strOfNums [u (sum (bs s)) % 256, u (sum (bs s)) / 256 % 256, u (sum (bs s)) / 65536 % 256, u (sum (bs s)) / 16777216 % 256] = str (ending (sum (bs s))) := ending_str _
  rw [he] at hcv
  have hn := no_room s.size (sum (bs s)) hs
  clear he
  go_enter Try.func22, Try.ntmps22
  go_wp2_with fail
  refine (sumR_any s hs2 _).mono ?_
  rintro e w1 ⟨rfl, rfl⟩
  go_wp2_with fail
  go_ret
  exact ⟨ret_str (str_append _ _), (Below.refl _ _).alloc (Nat.le_refl _) _⟩
end Go.Proofs.Ythejhofnoolpcaa
