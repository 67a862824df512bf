/- Walks: the chunk of an item (the program's). -/
import Derived.Test.YtoojpfcnekpboaaGreatZBL
namespace Go.Proofs.YtoojpfcnekpboaaGreat
open Go.RowKit Go.Shelf

def prtS (s : ByteArray) (o q : Int) : ByteArray := s.extract o.toNat (o + q).toNat
/-- What is wrong with the chunk of an item (0: nothing). -/
def chE (s : ByteArray) (x : Itm) : Int :=
  if x.off < 0 ∨ x.size < 0 ∨ (s.size : Int) < x.off ∨ (s.size : Int) - x.off < x.size then 2
  else if (prtS s x.off x.size).size < 4 then 11
  else if CR.Whole (prtS s x.off x.size) then 0 else 13
def chD (s : ByteArray) (x : Itm) : ByteArray := CR.body (prtS s x.off x.size)
def CPost (s : ByteArray) (x : Itm) (A : Option Addr) (n c : Nat) (w : World) (e : Ending) (w' : World) : Prop := Below w.heap.size w w' ∧
  ((chE s x = 0 ∧ e = .returned (.tuple #[.agg (chC x.sig A n c x.zone (chD s x)), .int .i64 0])) ∨ (chE s x ≠ 0 ∧ e = .returned (.tuple #[.agg #[.int .i64 0, .slice none 0 0, .int .i64 0, .int .i64 0, .int .i64 0, .int .i64 0, .int .i64 0, .int .u32 0, .int .u32 0, .int .u32 0, .int .u32 0, .int .u32 0, .int .u32 0, .int .u32 0, .int .u32 0, .string ⟨#[]⟩], .int .i64 (chE s x)])))
set_option maxRecDepth 100000 in
set_option maxHeartbeats 2000000 in
theorem chunk_any (s : ByteArray) (x : Itm) (A : Option Addr) (n c : Nat) (w : World) (hs : s.size ≤ 100000) :
    Calls Tryz.prog 21 #[.string s, .agg (itC x.sig A n c x.zone x.off x.size)] w (CPost s x A n c w) := by
  obtain ⟨V, hV⟩ : ∃ V, V = (itC x.sig A n c x.zone x.off x.size) := ⟨_, rfl⟩
  rw [← hV]
  have hcs : V.size = 17 := by rw [hV]; rfl
  have HV := Lib.hid hV
  clear hV
  have HX := Lib.hid ((At.new w V 52).alloc (.cells #[.int .i64 0, .slice none 0 0, .int .i64 0, .int .i64 0, .int .i64 0, .int .i64 0, .int .i64 0, .int .u32 0, .int .u32 0, .int .u32 0, .int .u32 0, .int .u32 0, .int .u32 0, .int .u32 0, .int .u32 0, .string ⟨#[]⟩] 58))
  have hY := At.new (w.alloc (.cells V 52)) #[.int .i64 0, .slice none 0 0, .int .i64 0, .int .i64 0, .int .i64 0, .int .i64 0, .int .i64 0, .int .u32 0, .int .u32 0, .int .u32 0, .int .u32 0, .int .u32 0, .int .u32 0, .int .u32 0, .int .u32 0, .string ⟨#[]⟩] 58
  have z1 : (w.alloc (.cells V 52)).heap.size = w.heap.size + 1 := by simp
  rw [z1] at hY
  have HB : Hid (Below w.heap.size w ((w.alloc (.cells V 52)).alloc (.cells #[.int .i64 0, .slice none 0 0, .int .i64 0, .int .i64 0, .int .i64 0, .int .i64 0, .int .i64 0, .int .u32 0, .int .u32 0, .int .u32 0, .int .u32 0, .int .u32 0, .int .u32 0, .int .u32 0, .int .u32 0, .string ⟨#[]⟩] 58))) := Lib.hid (((Below.refl _ _).alloc (Nat.le_refl _) _).alloc (by simp) _)
  obtain ⟨Y, hYe⟩ : ∃ Y, w.heap.size + 1 = Y := ⟨_, rfl⟩
  rw [hYe] at hY
  have HY := Lib.hid hY
  have HYE := Lib.hid hYe
  have HN : Hid (w.heap.size < Y) := Lib.hid (by omega)
  have x15 : ((w.alloc (.cells V 52)).alloc (.cells #[.int .i64 0, .slice none 0 0, .int .i64 0, .int .i64 0, .int .i64 0, .int .i64 0, .int .i64 0, .int .u32 0, .int .u32 0, .int .u32 0, .int .u32 0, .int .u32 0, .int .u32 0, .int .u32 0, .int .u32 0, .string ⟨#[]⟩] 58)).cell? ⟨w.heap.size, 15, none⟩ = some (.int .i64 x.off) := by rw [HX.out.cell, HV.out]; rfl
  have x16 : ((w.alloc (.cells V 52)).alloc (.cells #[.int .i64 0, .slice none 0 0, .int .i64 0, .int .i64 0, .int .i64 0, .int .i64 0, .int .i64 0, .int .u32 0, .int .u32 0, .int .u32 0, .int .u32 0, .int .u32 0, .int .u32 0, .int .u32 0, .int .u32 0, .string ⟨#[]⟩] 58)).cell? ⟨w.heap.size, 16, none⟩ = some (.int .i64 x.size) := by rw [HX.out.cell, HV.out]; rfl
  have hsl : (s.size : Int) ≤ 100000 := by omega
  have hsl0 : (0 : Int) ≤ (s.size : Int) := by omega
  have HO : Hid (chE s x = if x.off < 0 ∨ x.size < 0 ∨ (s.size : Int) < x.off ∨ (s.size : Int) - x.off < x.size then 2 else if (prtS s x.off x.size).size < 4 then 11 else if CR.Whole (prtS s x.off x.size) then 0 else 13) := Lib.hid rfl
  clear hY z1 hYe hs
  by_cases h1 : x.off < 0
  · have HE : Hid (chE s x = 2) := Lib.hid (by rw [HO.out, if_pos (.inl h1)])
    clear HO
    go_enter Tryz.func21, Tryz.ntmps21
    go_upto_region 1 with fail
    change Code.wp _ _ _ _ ((w.alloc (.cells V 52)).alloc (.cells #[.int .i64 0, .slice none 0 0, .int .i64 0, .int .i64 0, .int .i64 0, .int .i64 0, .int .i64 0, .int .u32 0, .int .u32 0, .int .u32 0, .int .u32 0, .int .u32 0, .int .u32 0, .int .u32 0, .int .u32 0, .string ⟨#[]⟩] 58))
    generalize (w.alloc (.cells V 52)).alloc (.cells #[.int .i64 0, .slice none 0 0, .int .i64 0, .int .i64 0, .int .i64 0, .int .i64 0, .int .i64 0, .int .u32 0, .int .u32 0, .int .u32 0, .int .u32 0, .int .u32 0, .int .u32 0, .int .u32 0, .int .u32 0, .string ⟨#[]⟩] 58) = w0 at *
    rw [HYE.out]
    go_upto_region 2 with fail
    replace HY : Hid (At _ Y #[.int .i64 0, .slice none 0 0, .int .i64 0, .int .i64 0, .int .i64 0, .int .i64 0, .int .i64 0, .int .u32 0, .int .u32 0, .int .u32 0, .int .u32 0, .int .u32 0, .int .u32 0, .int .u32 0, .int .u32 0, .string ⟨#[]⟩] 58) := Lib.hid HY.out
    go_wp2_with (refine wpList_store_at rfl 58 (.tmp 4) (.tmp 33) rfl Y #[.int .i64 0, .slice none 0 0, .int .i64 0, .int .i64 0, .int .i64 0, .int .i64 0, .int .i64 0, .int .u32 0, .int .u32 0, .int .u32 0, .int .u32 0, .int .u32 0, .int .u32 0, .int .u32 0, .int .u32 0, .string ⟨#[]⟩] rfl rfl 58 _ HY.out size_chunk rfl (by simp [Value.oneCell']) ?_)
    intro w9 HW9
    have HY9 : Hid (At w9 Y #[.int .i64 0, .slice none 0 0, .int .i64 0, .int .i64 0, .int .i64 0, .int .i64 0, .int .i64 0, .int .u32 0, .int .u32 0, .int .u32 0, .int .u32 0, .int .u32 0, .int .u32 0, .int .u32 0, .int .u32 0, .string ⟨#[]⟩] 58) := Lib.hid (by rw [HW9.out]; exact HY.out.row)
    have HB9 : Hid (Below w.heap.size w w9) := Lib.hid (by rw [HW9.out]; exact below_row HB.out _ _ (by have := HN.out; omega))
    go_wp2_with fail
    refine bodyPost_ret (results_row_tmp rfl _ _ Y 58 _ _ rfl HY9.out Tryz.underlying58 rfl size_chunk) rfl ⟨HB9.out, .inr ⟨by rw [HE.out]; decide, by rw [HE.out]; rfl⟩⟩
  by_cases h2 : x.size < 0
  · have HE : Hid (chE s x = 2) := Lib.hid (by rw [HO.out, if_pos (.inr (.inl h2))])
    clear HO
    go_enter Tryz.func21, Tryz.ntmps21
    go_upto_region 1 with fail
    change Code.wp _ _ _ _ ((w.alloc (.cells V 52)).alloc (.cells #[.int .i64 0, .slice none 0 0, .int .i64 0, .int .i64 0, .int .i64 0, .int .i64 0, .int .i64 0, .int .u32 0, .int .u32 0, .int .u32 0, .int .u32 0, .int .u32 0, .int .u32 0, .int .u32 0, .int .u32 0, .string ⟨#[]⟩] 58))
    generalize (w.alloc (.cells V 52)).alloc (.cells #[.int .i64 0, .slice none 0 0, .int .i64 0, .int .i64 0, .int .i64 0, .int .i64 0, .int .i64 0, .int .u32 0, .int .u32 0, .int .u32 0, .int .u32 0, .int .u32 0, .int .u32 0, .int .u32 0, .int .u32 0, .string ⟨#[]⟩] 58) = w0 at *
    rw [HYE.out]
    go_upto_region 2 with fail
    replace HY : Hid (At _ Y #[.int .i64 0, .slice none 0 0, .int .i64 0, .int .i64 0, .int .i64 0, .int .i64 0, .int .i64 0, .int .u32 0, .int .u32 0, .int .u32 0, .int .u32 0, .int .u32 0, .int .u32 0, .int .u32 0, .int .u32 0, .string ⟨#[]⟩] 58) := Lib.hid HY.out
    go_wp2_with (refine wpList_store_at rfl 58 (.tmp 4) (.tmp 33) rfl Y #[.int .i64 0, .slice none 0 0, .int .i64 0, .int .i64 0, .int .i64 0, .int .i64 0, .int .i64 0, .int .u32 0, .int .u32 0, .int .u32 0, .int .u32 0, .int .u32 0, .int .u32 0, .int .u32 0, .int .u32 0, .string ⟨#[]⟩] rfl rfl 58 _ HY.out size_chunk rfl (by simp [Value.oneCell']) ?_)
    intro w9 HW9
    have HY9 : Hid (At w9 Y #[.int .i64 0, .slice none 0 0, .int .i64 0, .int .i64 0, .int .i64 0, .int .i64 0, .int .i64 0, .int .u32 0, .int .u32 0, .int .u32 0, .int .u32 0, .int .u32 0, .int .u32 0, .int .u32 0, .int .u32 0, .string ⟨#[]⟩] 58) := Lib.hid (by rw [HW9.out]; exact HY.out.row)
    have HB9 : Hid (Below w.heap.size w w9) := Lib.hid (by rw [HW9.out]; exact below_row HB.out _ _ (by have := HN.out; omega))
    go_wp2_with fail
    refine bodyPost_ret (results_row_tmp rfl _ _ Y 58 _ _ rfl HY9.out Tryz.underlying58 rfl size_chunk) rfl ⟨HB9.out, .inr ⟨by rw [HE.out]; decide, by rw [HE.out]; rfl⟩⟩
  by_cases h3 : (s.size : Int) < x.off
  · have HE : Hid (chE s x = 2) := Lib.hid (by rw [HO.out, if_pos (.inr (.inr (.inl h3)))])
    clear HO
    go_enter Tryz.func21, Tryz.ntmps21
    go_upto_region 1 with fail
    change Code.wp _ _ _ _ ((w.alloc (.cells V 52)).alloc (.cells #[.int .i64 0, .slice none 0 0, .int .i64 0, .int .i64 0, .int .i64 0, .int .i64 0, .int .i64 0, .int .u32 0, .int .u32 0, .int .u32 0, .int .u32 0, .int .u32 0, .int .u32 0, .int .u32 0, .int .u32 0, .string ⟨#[]⟩] 58))
    generalize (w.alloc (.cells V 52)).alloc (.cells #[.int .i64 0, .slice none 0 0, .int .i64 0, .int .i64 0, .int .i64 0, .int .i64 0, .int .i64 0, .int .u32 0, .int .u32 0, .int .u32 0, .int .u32 0, .int .u32 0, .int .u32 0, .int .u32 0, .int .u32 0, .string ⟨#[]⟩] 58) = w0 at *
    rw [HYE.out]
    go_upto_region 2 with fail
    replace HY : Hid (At _ Y #[.int .i64 0, .slice none 0 0, .int .i64 0, .int .i64 0, .int .i64 0, .int .i64 0, .int .i64 0, .int .u32 0, .int .u32 0, .int .u32 0, .int .u32 0, .int .u32 0, .int .u32 0, .int .u32 0, .int .u32 0, .string ⟨#[]⟩] 58) := Lib.hid HY.out
    go_wp2_with (refine wpList_store_at rfl 58 (.tmp 4) (.tmp 33) rfl Y #[.int .i64 0, .slice none 0 0, .int .i64 0, .int .i64 0, .int .i64 0, .int .i64 0, .int .i64 0, .int .u32 0, .int .u32 0, .int .u32 0, .int .u32 0, .int .u32 0, .int .u32 0, .int .u32 0, .int .u32 0, .string ⟨#[]⟩] rfl rfl 58 _ HY.out size_chunk rfl (by simp [Value.oneCell']) ?_)
    intro w9 HW9
    have HY9 : Hid (At w9 Y #[.int .i64 0, .slice none 0 0, .int .i64 0, .int .i64 0, .int .i64 0, .int .i64 0, .int .i64 0, .int .u32 0, .int .u32 0, .int .u32 0, .int .u32 0, .int .u32 0, .int .u32 0, .int .u32 0, .int .u32 0, .string ⟨#[]⟩] 58) := Lib.hid (by rw [HW9.out]; exact HY.out.row)
    have HB9 : Hid (Below w.heap.size w w9) := Lib.hid (by rw [HW9.out]; exact below_row HB.out _ _ (by have := HN.out; omega))
    go_wp2_with fail
    refine bodyPost_ret (results_row_tmp rfl _ _ Y 58 _ _ rfl HY9.out Tryz.underlying58 rfl size_chunk) rfl ⟨HB9.out, .inr ⟨by rw [HE.out]; decide, by rw [HE.out]; rfl⟩⟩
  by_cases h4 : (s.size : Int) - x.off < x.size
  · have HE : Hid (chE s x = 2) := Lib.hid (by rw [HO.out, if_pos (.inr (.inr (.inr h4)))])
    clear HO
    go_enter Tryz.func21, Tryz.ntmps21
    go_upto_region 1 with fail
    change Code.wp _ _ _ _ ((w.alloc (.cells V 52)).alloc (.cells #[.int .i64 0, .slice none 0 0, .int .i64 0, .int .i64 0, .int .i64 0, .int .i64 0, .int .i64 0, .int .u32 0, .int .u32 0, .int .u32 0, .int .u32 0, .int .u32 0, .int .u32 0, .int .u32 0, .int .u32 0, .string ⟨#[]⟩] 58))
    generalize (w.alloc (.cells V 52)).alloc (.cells #[.int .i64 0, .slice none 0 0, .int .i64 0, .int .i64 0, .int .i64 0, .int .i64 0, .int .i64 0, .int .u32 0, .int .u32 0, .int .u32 0, .int .u32 0, .int .u32 0, .int .u32 0, .int .u32 0, .int .u32 0, .string ⟨#[]⟩] 58) = w0 at *
    rw [HYE.out]
    go_upto_region 2 with fail
    replace HY : Hid (At _ Y #[.int .i64 0, .slice none 0 0, .int .i64 0, .int .i64 0, .int .i64 0, .int .i64 0, .int .i64 0, .int .u32 0, .int .u32 0, .int .u32 0, .int .u32 0, .int .u32 0, .int .u32 0, .int .u32 0, .int .u32 0, .string ⟨#[]⟩] 58) := Lib.hid HY.out
    go_wp2_with (refine wpList_store_at rfl 58 (.tmp 4) (.tmp 33) rfl Y #[.int .i64 0, .slice none 0 0, .int .i64 0, .int .i64 0, .int .i64 0, .int .i64 0, .int .i64 0, .int .u32 0, .int .u32 0, .int .u32 0, .int .u32 0, .int .u32 0, .int .u32 0, .int .u32 0, .int .u32 0, .string ⟨#[]⟩] rfl rfl 58 _ HY.out size_chunk rfl (by simp [Value.oneCell']) ?_)
    intro w9 HW9
    have HY9 : Hid (At w9 Y #[.int .i64 0, .slice none 0 0, .int .i64 0, .int .i64 0, .int .i64 0, .int .i64 0, .int .i64 0, .int .u32 0, .int .u32 0, .int .u32 0, .int .u32 0, .int .u32 0, .int .u32 0, .int .u32 0, .int .u32 0, .string ⟨#[]⟩] 58) := Lib.hid (by rw [HW9.out]; exact HY.out.row)
    have HB9 : Hid (Below w.heap.size w w9) := Lib.hid (by rw [HW9.out]; exact below_row HB.out _ _ (by have := HN.out; omega))
    go_wp2_with fail
    refine bodyPost_ret (results_row_tmp rfl _ _ Y 58 _ _ rfl HY9.out Tryz.underlying58 rfl size_chunk) rfl ⟨HB9.out, .inr ⟨by rw [HE.out]; decide, by rw [HE.out]; rfl⟩⟩
  obtain ⟨o, ho⟩ : ∃ o : Nat, x.off = o := ⟨x.off.toNat, by omega⟩
  obtain ⟨q, hq⟩ : ∃ q : Nat, x.size = q := ⟨x.size.toNat, by omega⟩
  have hpr : prtS s x.off x.size = s.extract o (o + q) := by unfold prtS; rw [ho, hq]; congr 1
  have HPR := Lib.hid hpr
  have HPS : Hid ((s.extract o (o + q)).size = q) := Lib.hid (by rw [ByteArray.size_extract]; omega)
  have hoq : (o : Int) + (q : Int) ≤ (s.size : Int) := by omega
  have HOQ := Lib.hid hoq
  rw [if_neg (by omega), hpr] at HO
  have HHO := Lib.hid ho
  have HHQ := Lib.hid hq
  rw [ho] at h1 h3 h4 x15
  rw [hq] at h2 h4 x16
  clear ho hq hpr
  have HCH : Hid (∀ D, CR.body (prtS s x.off x.size) = D → chD s x = D) := Lib.hid (fun D h => h)
  rw [HPR.out] at HCH
  by_cases h5 : q < 4
  · have HE : Hid (chE s x = 11) := Lib.hid (by rw [HO.out, if_pos (by rw [HPS.out]; exact h5)])
    have HCO := fun w => CR.open_short (s.extract o (o + q)) (by rw [HPS.out]; exact h5) w
    have HC := Lib.hid HCO
    clear HO h5 HCO
    go_enter Tryz.func21, Tryz.ntmps21
    go_upto_region 1 with fail
    change Code.wp _ _ _ _ ((w.alloc (.cells V 52)).alloc (.cells #[.int .i64 0, .slice none 0 0, .int .i64 0, .int .i64 0, .int .i64 0, .int .i64 0, .int .i64 0, .int .u32 0, .int .u32 0, .int .u32 0, .int .u32 0, .int .u32 0, .int .u32 0, .int .u32 0, .int .u32 0, .string ⟨#[]⟩] 58))
    generalize (w.alloc (.cells V 52)).alloc (.cells #[.int .i64 0, .slice none 0 0, .int .i64 0, .int .i64 0, .int .i64 0, .int .i64 0, .int .i64 0, .int .u32 0, .int .u32 0, .int .u32 0, .int .u32 0, .int .u32 0, .int .u32 0, .int .u32 0, .int .u32 0, .string ⟨#[]⟩] 58) = w0 at *
    rw [HYE.out]
    go_upto_region 3 with fail
    clear h1 h2 h3 h4
    go_wp2_with fail
    refine (HC.out w0).mono ?_
    rintro e w1 ⟨rfl, hb⟩
    replace HY := Lib.hid (HY.out.below hb)
    replace HB := Lib.hid (HB.out.trans (hb.mono HB.out.size))
    clear hb x15 x16
    go_upto_region 5 with fail
    replace HY : Hid (At _ Y #[.int .i64 0, .slice none 0 0, .int .i64 0, .int .i64 0, .int .i64 0, .int .i64 0, .int .i64 0, .int .u32 0, .int .u32 0, .int .u32 0, .int .u32 0, .int .u32 0, .int .u32 0, .int .u32 0, .int .u32 0, .string ⟨#[]⟩] 58) := Lib.hid HY.out
    go_wp2_with (refine wpList_store_at rfl 58 (.tmp 4) (.tmp 49) rfl Y #[.int .i64 0, .slice none 0 0, .int .i64 0, .int .i64 0, .int .i64 0, .int .i64 0, .int .i64 0, .int .u32 0, .int .u32 0, .int .u32 0, .int .u32 0, .int .u32 0, .int .u32 0, .int .u32 0, .int .u32 0, .string ⟨#[]⟩] rfl rfl 58 _ HY.out size_chunk rfl (by simp [Value.oneCell']) ?_)
    intro w9 HW9
    have HY9 : Hid (At w9 Y #[.int .i64 0, .slice none 0 0, .int .i64 0, .int .i64 0, .int .i64 0, .int .i64 0, .int .i64 0, .int .u32 0, .int .u32 0, .int .u32 0, .int .u32 0, .int .u32 0, .int .u32 0, .int .u32 0, .int .u32 0, .string ⟨#[]⟩] 58) := Lib.hid (by rw [HW9.out]; exact HY.out.row)
    have HB9 : Hid (Below w.heap.size w w9) := Lib.hid (by rw [HW9.out]; exact below_row HB.out _ _ (by have := HN.out; omega))
    go_wp2_with fail
    refine bodyPost_ret (results_row_tmp rfl _ _ Y 58 _ _ rfl HY9.out Tryz.underlying58 rfl size_chunk) rfl ⟨HB9.out, .inr ⟨by rw [HE.out]; decide, by rw [HE.out]; rfl⟩⟩
  · by_cases h6 : CR.Whole (s.extract o (o + q))
    · have HE : Hid (chE s x = 0) := Lib.hid (by rw [HO.out, if_neg (by rw [HPS.out]; omega), if_pos h6])
      have HCO := fun w => CR.open_good (s.extract o (o + q)) (by rw [HPS.out]; omega) (by rw [HPS.out]; omega) h6 w
      have HC := Lib.hid HCO
      clear HO h5 HCO h6
      go_enter Tryz.func21, Tryz.ntmps21
      go_upto_region 1 with fail
      change Code.wp _ _ _ _ ((w.alloc (.cells V 52)).alloc (.cells #[.int .i64 0, .slice none 0 0, .int .i64 0, .int .i64 0, .int .i64 0, .int .i64 0, .int .i64 0, .int .u32 0, .int .u32 0, .int .u32 0, .int .u32 0, .int .u32 0, .int .u32 0, .int .u32 0, .int .u32 0, .string ⟨#[]⟩] 58))
      generalize (w.alloc (.cells V 52)).alloc (.cells #[.int .i64 0, .slice none 0 0, .int .i64 0, .int .i64 0, .int .i64 0, .int .i64 0, .int .i64 0, .int .u32 0, .int .u32 0, .int .u32 0, .int .u32 0, .int .u32 0, .int .u32 0, .int .u32 0, .int .u32 0, .string ⟨#[]⟩] 58) = w0 at *
      rw [HYE.out]
      go_upto_region 3 with fail
      clear h1 h2 h3 h4
      go_wp2_with fail
      refine (HC.out w0).mono ?_
      rintro e w1 ⟨rfl, hb⟩
      replace HY := Lib.hid (HY.out.below hb)
      replace HX := Lib.hid (HX.out.below hb)
      replace HB := Lib.hid (HB.out.trans (hb.mono HB.out.size))
      clear hb x15 x16
      have HD := Lib.hid (HCH.out _ rfl)
      obtain ⟨D, hD⟩ : ∃ D, CR.body (s.extract o (o + q)) = D := ⟨_, rfl⟩
      rw [hD] at HD
      rw [hD]
      clear hD HC
      rw [HV.out] at HX
      have e0 : w1.cell? ⟨w.heap.size, 0, none⟩ = some (.int .i64 x.sig) := HX.out.cell 0
      have e1 : w1.cell? ⟨w.heap.size, 1, none⟩ = some (.slice A n c) := HX.out.cell 1
      have HZ : Hid (w1.rangeAt w.heap.size 2 [.int .i64 x.zone.count, .int .i64 x.zone.minT, .int .i64 x.zone.maxT, .int .i64 x.zone.minV, .int .i64 x.zone.maxV, .int .u32 x.zone.b0, .int .u32 x.zone.b1, .int .u32 x.zone.b2, .int .u32 x.zone.b3, .int .u32 x.zone.b4, .int .u32 x.zone.b5, .int .u32 x.zone.b6, .int .u32 x.zone.b7]) := Lib.hid (World.rangeAt_of_block (n := 13) HX.out.out 2)
      go_upto_region 6 with fail
      go_wp2_with (first | (refine wpList_load_mid rfl 50 (.tmp 55) rfl w.heap.size 2 rfl _ _ HZ.out Tryz.underlying50 rfl size_zone ?_) | (refine wpList_store_at rfl 58 (.tmp 4) (.tmp 58) rfl Y (chC x.sig A n c x.zone D) rfl rfl 58 _ HY.out size_chunk rfl (chC_one _ _ _ _ _ _) ?_))
      intro w9 HW9
      have HY9 : Hid (At w9 Y (chC x.sig A n c x.zone D) 58) := Lib.hid (by rw [HW9.out]; exact HY.out.row)
      have HB9 : Hid (Below w.heap.size w w9) := Lib.hid (by rw [HW9.out]; exact below_row HB.out _ _ (by have := HN.out; omega))
      go_wp2_with fail
      refine bodyPost_ret (results_row_tmp rfl _ _ Y 58 _ _ rfl HY9.out Tryz.underlying58 rfl size_chunk) rfl ⟨HB9.out, .inl ⟨HE.out, by rw [HD.out]; rfl⟩⟩
    · have HE : Hid (chE s x = 13) := Lib.hid (by rw [HO.out, if_neg (by rw [HPS.out]; omega), if_neg h6])
      have HCO := fun w => CR.open_bad (s.extract o (o + q)) (by rw [HPS.out]; omega) (by rw [HPS.out]; omega) h6 w
      have HC := Lib.hid HCO
      clear HO h5 HCO h6
      go_enter Tryz.func21, Tryz.ntmps21
      go_upto_region 1 with fail
      change Code.wp _ _ _ _ ((w.alloc (.cells V 52)).alloc (.cells #[.int .i64 0, .slice none 0 0, .int .i64 0, .int .i64 0, .int .i64 0, .int .i64 0, .int .i64 0, .int .u32 0, .int .u32 0, .int .u32 0, .int .u32 0, .int .u32 0, .int .u32 0, .int .u32 0, .int .u32 0, .string ⟨#[]⟩] 58))
      generalize (w.alloc (.cells V 52)).alloc (.cells #[.int .i64 0, .slice none 0 0, .int .i64 0, .int .i64 0, .int .i64 0, .int .i64 0, .int .i64 0, .int .u32 0, .int .u32 0, .int .u32 0, .int .u32 0, .int .u32 0, .int .u32 0, .int .u32 0, .int .u32 0, .string ⟨#[]⟩] 58) = w0 at *
      rw [HYE.out]
      go_upto_region 3 with fail
      clear h1 h2 h3 h4
      go_wp2_with fail
      refine (HC.out w0).mono ?_
      rintro e w1 ⟨rfl, hb⟩
      replace HY := Lib.hid (HY.out.below hb)
      replace HB := Lib.hid (HB.out.trans (hb.mono HB.out.size))
      clear hb x15 x16
      go_upto_region 5 with fail
      replace HY : Hid (At _ Y #[.int .i64 0, .slice none 0 0, .int .i64 0, .int .i64 0, .int .i64 0, .int .i64 0, .int .i64 0, .int .u32 0, .int .u32 0, .int .u32 0, .int .u32 0, .int .u32 0, .int .u32 0, .int .u32 0, .int .u32 0, .string ⟨#[]⟩] 58) := Lib.hid HY.out
      go_wp2_with (refine wpList_store_at rfl 58 (.tmp 4) (.tmp 49) rfl Y #[.int .i64 0, .slice none 0 0, .int .i64 0, .int .i64 0, .int .i64 0, .int .i64 0, .int .i64 0, .int .u32 0, .int .u32 0, .int .u32 0, .int .u32 0, .int .u32 0, .int .u32 0, .int .u32 0, .int .u32 0, .string ⟨#[]⟩] rfl rfl 58 _ HY.out size_chunk rfl (by simp [Value.oneCell']) ?_)
      intro w9 HW9
      have HY9 : Hid (At w9 Y #[.int .i64 0, .slice none 0 0, .int .i64 0, .int .i64 0, .int .i64 0, .int .i64 0, .int .i64 0, .int .u32 0, .int .u32 0, .int .u32 0, .int .u32 0, .int .u32 0, .int .u32 0, .int .u32 0, .int .u32 0, .string ⟨#[]⟩] 58) := Lib.hid (by rw [HW9.out]; exact HY.out.row)
      have HB9 : Hid (Below w.heap.size w w9) := Lib.hid (by rw [HW9.out]; exact below_row HB.out _ _ (by have := HN.out; omega))
      go_wp2_with fail
      refine bodyPost_ret (results_row_tmp rfl _ _ Y 58 _ _ rfl HY9.out Tryz.underlying58 rfl size_chunk) rfl ⟨HB9.out, .inr ⟨by rw [HE.out]; decide, by rw [HE.out]; rfl⟩⟩
end Go.Proofs.YtoojpfcnekpboaaGreat
