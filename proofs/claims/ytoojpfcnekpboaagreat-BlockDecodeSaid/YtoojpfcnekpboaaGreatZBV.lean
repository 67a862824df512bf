/- Walks: the chunk of an item (the reference's; printed out of Kv by tools/mkpm.py). Walks: a file's directory (the reference's). -/
import Derived.Test.YtoojpfcnekpboaaGreatZBU
import Derived.Test.YtoojpfcnekpboaaGreatZBM
import Derived.Test.YtoojpfcnekpboaaGreatZBR
namespace Go.Proofs.YtoojpfcnekpboaaGreat
open Go.RowKit Go.Shelf

set_option maxRecDepth 100000 in
set_option maxHeartbeats 2000000 in
theorem chunkR_any (s : ByteArray) (x : Itm) (A : Option Addr) (n c : Nat) (w : World) (hs : s.size ≤ 100000) :
    Calls Tryz.prog 22 #[.string s, .agg (itC x.sig A n c x.zone x.off x.size)] w (CPost s x A n c w) := by
  obtain ⟨V, hV⟩ : ∃ V, V = (itC x.sig A n c x.zone x.off x.size) := ⟨_, rfl⟩
  rw [← hV]
  have hcs : V.size = 17 := by rw [hV]; rfl
  have HV := Lib.hid hV
  clear hV
  have HX := Lib.hid ((At.new w V 52).alloc (.cells #[.int .i64 0, .slice none 0 0, .int .i64 0, .int .i64 0, .int .i64 0, .int .i64 0, .int .i64 0, .int .u32 0, .int .u32 0, .int .u32 0, .int .u32 0, .int .u32 0, .int .u32 0, .int .u32 0, .int .u32 0, .string ⟨#[]⟩] 58))
  have hY := At.new (w.alloc (.cells V 52)) #[.int .i64 0, .slice none 0 0, .int .i64 0, .int .i64 0, .int .i64 0, .int .i64 0, .int .i64 0, .int .u32 0, .int .u32 0, .int .u32 0, .int .u32 0, .int .u32 0, .int .u32 0, .int .u32 0, .int .u32 0, .string ⟨#[]⟩] 58
  have z1 : (w.alloc (.cells V 52)).heap.size = w.heap.size + 1 := by simp
  rw [z1] at hY
  have HB : Hid (Below w.heap.size w ((w.alloc (.cells V 52)).alloc (.cells #[.int .i64 0, .slice none 0 0, .int .i64 0, .int .i64 0, .int .i64 0, .int .i64 0, .int .i64 0, .int .u32 0, .int .u32 0, .int .u32 0, .int .u32 0, .int .u32 0, .int .u32 0, .int .u32 0, .int .u32 0, .string ⟨#[]⟩] 58))) := Lib.hid (((Below.refl _ _).alloc (Nat.le_refl _) _).alloc (by simp) _)
  obtain ⟨Y, hYe⟩ : ∃ Y, w.heap.size + 1 = Y := ⟨_, rfl⟩
  rw [hYe] at hY
  have HY := Lib.hid hY
  have HYE := Lib.hid hYe
  have HN : Hid (w.heap.size < Y) := Lib.hid (by omega)
  have x15 : ((w.alloc (.cells V 52)).alloc (.cells #[.int .i64 0, .slice none 0 0, .int .i64 0, .int .i64 0, .int .i64 0, .int .i64 0, .int .i64 0, .int .u32 0, .int .u32 0, .int .u32 0, .int .u32 0, .int .u32 0, .int .u32 0, .int .u32 0, .int .u32 0, .string ⟨#[]⟩] 58)).cell? ⟨w.heap.size, 15, none⟩ = some (.int .i64 x.off) := by rw [HX.out.cell, HV.out]; rfl
  have x16 : ((w.alloc (.cells V 52)).alloc (.cells #[.int .i64 0, .slice none 0 0, .int .i64 0, .int .i64 0, .int .i64 0, .int .i64 0, .int .i64 0, .int .u32 0, .int .u32 0, .int .u32 0, .int .u32 0, .int .u32 0, .int .u32 0, .int .u32 0, .int .u32 0, .string ⟨#[]⟩] 58)).cell? ⟨w.heap.size, 16, none⟩ = some (.int .i64 x.size) := by rw [HX.out.cell, HV.out]; rfl
  have hsl : (s.size : Int) ≤ 100000 := by omega
  have hsl0 : (0 : Int) ≤ (s.size : Int) := by omega
  have HO : Hid (chE s x = if x.off < 0 ∨ x.size < 0 ∨ (s.size : Int) < x.off ∨ (s.size : Int) - x.off < x.size then 2 else if (prtS s x.off x.size).size < 4 then 11 else if CR.Whole (prtS s x.off x.size) then 0 else 13) := Lib.hid rfl
  clear hY z1 hYe hs
  by_cases h1 : x.off < 0
  · have HE : Hid (chE s x = 2) := Lib.hid (by rw [HO.out, if_pos (.inl h1)])
    clear HO
    go_enter Tryz.func22, Tryz.ntmps22
    go_upto_region 1 with fail
    change Code.wp _ _ _ _ ((w.alloc (.cells V 52)).alloc (.cells #[.int .i64 0, .slice none 0 0, .int .i64 0, .int .i64 0, .int .i64 0, .int .i64 0, .int .i64 0, .int .u32 0, .int .u32 0, .int .u32 0, .int .u32 0, .int .u32 0, .int .u32 0, .int .u32 0, .int .u32 0, .string ⟨#[]⟩] 58))
    generalize (w.alloc (.cells V 52)).alloc (.cells #[.int .i64 0, .slice none 0 0, .int .i64 0, .int .i64 0, .int .i64 0, .int .i64 0, .int .i64 0, .int .u32 0, .int .u32 0, .int .u32 0, .int .u32 0, .int .u32 0, .int .u32 0, .int .u32 0, .int .u32 0, .string ⟨#[]⟩] 58) = w0 at *
    rw [HYE.out]
    go_upto_region 2 with fail
    replace HY : Hid (At _ Y #[.int .i64 0, .slice none 0 0, .int .i64 0, .int .i64 0, .int .i64 0, .int .i64 0, .int .i64 0, .int .u32 0, .int .u32 0, .int .u32 0, .int .u32 0, .int .u32 0, .int .u32 0, .int .u32 0, .int .u32 0, .string ⟨#[]⟩] 58) := Lib.hid HY.out
    go_wp2_with (refine wpList_store_at rfl 58 (.tmp 4) (.tmp 33) rfl Y #[.int .i64 0, .slice none 0 0, .int .i64 0, .int .i64 0, .int .i64 0, .int .i64 0, .int .i64 0, .int .u32 0, .int .u32 0, .int .u32 0, .int .u32 0, .int .u32 0, .int .u32 0, .int .u32 0, .int .u32 0, .string ⟨#[]⟩] rfl rfl 58 _ HY.out size_chunk rfl (by simp [Value.oneCell']) ?_)
    intro w9 HW9
    have HY9 : Hid (At w9 Y #[.int .i64 0, .slice none 0 0, .int .i64 0, .int .i64 0, .int .i64 0, .int .i64 0, .int .i64 0, .int .u32 0, .int .u32 0, .int .u32 0, .int .u32 0, .int .u32 0, .int .u32 0, .int .u32 0, .int .u32 0, .string ⟨#[]⟩] 58) := Lib.hid (by rw [HW9.out]; exact HY.out.row)
    have HB9 : Hid (Below w.heap.size w w9) := Lib.hid (by rw [HW9.out]; exact below_row HB.out _ _ (by have := HN.out; omega))
    go_wp2_with fail
    refine bodyPost_ret (results_row_tmp rfl _ _ Y 58 _ _ rfl HY9.out Tryz.underlying58 rfl size_chunk) rfl ⟨HB9.out, .inr ⟨by rw [HE.out]; decide, by rw [HE.out]; rfl⟩⟩
  by_cases h2 : x.size < 0
  · have HE : Hid (chE s x = 2) := Lib.hid (by rw [HO.out, if_pos (.inr (.inl h2))])
    clear HO
    go_enter Tryz.func22, Tryz.ntmps22
    go_upto_region 1 with fail
    change Code.wp _ _ _ _ ((w.alloc (.cells V 52)).alloc (.cells #[.int .i64 0, .slice none 0 0, .int .i64 0, .int .i64 0, .int .i64 0, .int .i64 0, .int .i64 0, .int .u32 0, .int .u32 0, .int .u32 0, .int .u32 0, .int .u32 0, .int .u32 0, .int .u32 0, .int .u32 0, .string ⟨#[]⟩] 58))
    generalize (w.alloc (.cells V 52)).alloc (.cells #[.int .i64 0, .slice none 0 0, .int .i64 0, .int .i64 0, .int .i64 0, .int .i64 0, .int .i64 0, .int .u32 0, .int .u32 0, .int .u32 0, .int .u32 0, .int .u32 0, .int .u32 0, .int .u32 0, .int .u32 0, .string ⟨#[]⟩] 58) = w0 at *
    rw [HYE.out]
    go_upto_region 2 with fail
    replace HY : Hid (At _ Y #[.int .i64 0, .slice none 0 0, .int .i64 0, .int .i64 0, .int .i64 0, .int .i64 0, .int .i64 0, .int .u32 0, .int .u32 0, .int .u32 0, .int .u32 0, .int .u32 0, .int .u32 0, .int .u32 0, .int .u32 0, .string ⟨#[]⟩] 58) := Lib.hid HY.out
    go_wp2_with (refine wpList_store_at rfl 58 (.tmp 4) (.tmp 33) rfl Y #[.int .i64 0, .slice none 0 0, .int .i64 0, .int .i64 0, .int .i64 0, .int .i64 0, .int .i64 0, .int .u32 0, .int .u32 0, .int .u32 0, .int .u32 0, .int .u32 0, .int .u32 0, .int .u32 0, .int .u32 0, .string ⟨#[]⟩] rfl rfl 58 _ HY.out size_chunk rfl (by simp [Value.oneCell']) ?_)
    intro w9 HW9
    have HY9 : Hid (At w9 Y #[.int .i64 0, .slice none 0 0, .int .i64 0, .int .i64 0, .int .i64 0, .int .i64 0, .int .i64 0, .int .u32 0, .int .u32 0, .int .u32 0, .int .u32 0, .int .u32 0, .int .u32 0, .int .u32 0, .int .u32 0, .string ⟨#[]⟩] 58) := Lib.hid (by rw [HW9.out]; exact HY.out.row)
    have HB9 : Hid (Below w.heap.size w w9) := Lib.hid (by rw [HW9.out]; exact below_row HB.out _ _ (by have := HN.out; omega))
    go_wp2_with fail
    refine bodyPost_ret (results_row_tmp rfl _ _ Y 58 _ _ rfl HY9.out Tryz.underlying58 rfl size_chunk) rfl ⟨HB9.out, .inr ⟨by rw [HE.out]; decide, by rw [HE.out]; rfl⟩⟩
  by_cases h3 : (s.size : Int) < x.off
  · have HE : Hid (chE s x = 2) := Lib.hid (by rw [HO.out, if_pos (.inr (.inr (.inl h3)))])
    clear HO
    go_enter Tryz.func22, Tryz.ntmps22
    go_upto_region 1 with fail
    change Code.wp _ _ _ _ ((w.alloc (.cells V 52)).alloc (.cells #[.int .i64 0, .slice none 0 0, .int .i64 0, .int .i64 0, .int .i64 0, .int .i64 0, .int .i64 0, .int .u32 0, .int .u32 0, .int .u32 0, .int .u32 0, .int .u32 0, .int .u32 0, .int .u32 0, .int .u32 0, .string ⟨#[]⟩] 58))
    generalize (w.alloc (.cells V 52)).alloc (.cells #[.int .i64 0, .slice none 0 0, .int .i64 0, .int .i64 0, .int .i64 0, .int .i64 0, .int .i64 0, .int .u32 0, .int .u32 0, .int .u32 0, .int .u32 0, .int .u32 0, .int .u32 0, .int .u32 0, .int .u32 0, .string ⟨#[]⟩] 58) = w0 at *
    rw [HYE.out]
    go_upto_region 2 with fail
    replace HY : Hid (At _ Y #[.int .i64 0, .slice none 0 0, .int .i64 0, .int .i64 0, .int .i64 0, .int .i64 0, .int .i64 0, .int .u32 0, .int .u32 0, .int .u32 0, .int .u32 0, .int .u32 0, .int .u32 0, .int .u32 0, .int .u32 0, .string ⟨#[]⟩] 58) := Lib.hid HY.out
    go_wp2_with (refine wpList_store_at rfl 58 (.tmp 4) (.tmp 33) rfl Y #[.int .i64 0, .slice none 0 0, .int .i64 0, .int .i64 0, .int .i64 0, .int .i64 0, .int .i64 0, .int .u32 0, .int .u32 0, .int .u32 0, .int .u32 0, .int .u32 0, .int .u32 0, .int .u32 0, .int .u32 0, .string ⟨#[]⟩] rfl rfl 58 _ HY.out size_chunk rfl (by simp [Value.oneCell']) ?_)
    intro w9 HW9
    have HY9 : Hid (At w9 Y #[.int .i64 0, .slice none 0 0, .int .i64 0, .int .i64 0, .int .i64 0, .int .i64 0, .int .i64 0, .int .u32 0, .int .u32 0, .int .u32 0, .int .u32 0, .int .u32 0, .int .u32 0, .int .u32 0, .int .u32 0, .string ⟨#[]⟩] 58) := Lib.hid (by rw [HW9.out]; exact HY.out.row)
    have HB9 : Hid (Below w.heap.size w w9) := Lib.hid (by rw [HW9.out]; exact below_row HB.out _ _ (by have := HN.out; omega))
    go_wp2_with fail
    refine bodyPost_ret (results_row_tmp rfl _ _ Y 58 _ _ rfl HY9.out Tryz.underlying58 rfl size_chunk) rfl ⟨HB9.out, .inr ⟨by rw [HE.out]; decide, by rw [HE.out]; rfl⟩⟩
  by_cases h4 : (s.size : Int) - x.off < x.size
  · have HE : Hid (chE s x = 2) := Lib.hid (by rw [HO.out, if_pos (.inr (.inr (.inr h4)))])
    clear HO
    go_enter Tryz.func22, Tryz.ntmps22
    go_upto_region 1 with fail
    change Code.wp _ _ _ _ ((w.alloc (.cells V 52)).alloc (.cells #[.int .i64 0, .slice none 0 0, .int .i64 0, .int .i64 0, .int .i64 0, .int .i64 0, .int .i64 0, .int .u32 0, .int .u32 0, .int .u32 0, .int .u32 0, .int .u32 0, .int .u32 0, .int .u32 0, .int .u32 0, .string ⟨#[]⟩] 58))
    generalize (w.alloc (.cells V 52)).alloc (.cells #[.int .i64 0, .slice none 0 0, .int .i64 0, .int .i64 0, .int .i64 0, .int .i64 0, .int .i64 0, .int .u32 0, .int .u32 0, .int .u32 0, .int .u32 0, .int .u32 0, .int .u32 0, .int .u32 0, .int .u32 0, .string ⟨#[]⟩] 58) = w0 at *
    rw [HYE.out]
    go_upto_region 2 with fail
    replace HY : Hid (At _ Y #[.int .i64 0, .slice none 0 0, .int .i64 0, .int .i64 0, .int .i64 0, .int .i64 0, .int .i64 0, .int .u32 0, .int .u32 0, .int .u32 0, .int .u32 0, .int .u32 0, .int .u32 0, .int .u32 0, .int .u32 0, .string ⟨#[]⟩] 58) := Lib.hid HY.out
    go_wp2_with (refine wpList_store_at rfl 58 (.tmp 4) (.tmp 33) rfl Y #[.int .i64 0, .slice none 0 0, .int .i64 0, .int .i64 0, .int .i64 0, .int .i64 0, .int .i64 0, .int .u32 0, .int .u32 0, .int .u32 0, .int .u32 0, .int .u32 0, .int .u32 0, .int .u32 0, .int .u32 0, .string ⟨#[]⟩] rfl rfl 58 _ HY.out size_chunk rfl (by simp [Value.oneCell']) ?_)
    intro w9 HW9
    have HY9 : Hid (At w9 Y #[.int .i64 0, .slice none 0 0, .int .i64 0, .int .i64 0, .int .i64 0, .int .i64 0, .int .i64 0, .int .u32 0, .int .u32 0, .int .u32 0, .int .u32 0, .int .u32 0, .int .u32 0, .int .u32 0, .int .u32 0, .string ⟨#[]⟩] 58) := Lib.hid (by rw [HW9.out]; exact HY.out.row)
    have HB9 : Hid (Below w.heap.size w w9) := Lib.hid (by rw [HW9.out]; exact below_row HB.out _ _ (by have := HN.out; omega))
    go_wp2_with fail
    refine bodyPost_ret (results_row_tmp rfl _ _ Y 58 _ _ rfl HY9.out Tryz.underlying58 rfl size_chunk) rfl ⟨HB9.out, .inr ⟨by rw [HE.out]; decide, by rw [HE.out]; rfl⟩⟩
  obtain ⟨o, ho⟩ : ∃ o : Nat, x.off = o := ⟨x.off.toNat, by omega⟩
  obtain ⟨q, hq⟩ : ∃ q : Nat, x.size = q := ⟨x.size.toNat, by omega⟩
  have hpr : prtS s x.off x.size = s.extract o (o + q) := by unfold prtS; rw [ho, hq]; congr 1
  have HPR := Lib.hid hpr
  have HPS : Hid ((s.extract o (o + q)).size = q) := Lib.hid (by rw [ByteArray.size_extract]; omega)
  have hoq : (o : Int) + (q : Int) ≤ (s.size : Int) := by omega
  have HOQ := Lib.hid hoq
  rw [if_neg (by omega), hpr] at HO
  have HHO := Lib.hid ho
  have HHQ := Lib.hid hq
  rw [ho] at h1 h3 h4 x15
  rw [hq] at h2 h4 x16
  clear ho hq hpr
  have HCH : Hid (∀ D, CR.body (prtS s x.off x.size) = D → chD s x = D) := Lib.hid (fun D h => h)
  rw [HPR.out] at HCH
  by_cases h5 : q < 4
  · have HE : Hid (chE s x = 11) := Lib.hid (by rw [HO.out, if_pos (by rw [HPS.out]; exact h5)])
    have HCO := fun w => CR.openR_short (s.extract o (o + q)) (by rw [HPS.out]; exact h5) w
    have HC := Lib.hid HCO
    clear HO h5 HCO
    go_enter Tryz.func22, Tryz.ntmps22
    go_upto_region 1 with fail
    change Code.wp _ _ _ _ ((w.alloc (.cells V 52)).alloc (.cells #[.int .i64 0, .slice none 0 0, .int .i64 0, .int .i64 0, .int .i64 0, .int .i64 0, .int .i64 0, .int .u32 0, .int .u32 0, .int .u32 0, .int .u32 0, .int .u32 0, .int .u32 0, .int .u32 0, .int .u32 0, .string ⟨#[]⟩] 58))
    generalize (w.alloc (.cells V 52)).alloc (.cells #[.int .i64 0, .slice none 0 0, .int .i64 0, .int .i64 0, .int .i64 0, .int .i64 0, .int .i64 0, .int .u32 0, .int .u32 0, .int .u32 0, .int .u32 0, .int .u32 0, .int .u32 0, .int .u32 0, .int .u32 0, .string ⟨#[]⟩] 58) = w0 at *
    rw [HYE.out]
    go_upto_region 3 with fail
    clear h1 h2 h3 h4
    go_wp2_with fail
    refine (HC.out w0).mono ?_
    rintro e w1 ⟨rfl, hb⟩
    replace HY := Lib.hid (HY.out.below hb)
    replace HB := Lib.hid (HB.out.trans (hb.mono HB.out.size))
    clear hb x15 x16
    go_upto_region 5 with fail
    replace HY : Hid (At _ Y #[.int .i64 0, .slice none 0 0, .int .i64 0, .int .i64 0, .int .i64 0, .int .i64 0, .int .i64 0, .int .u32 0, .int .u32 0, .int .u32 0, .int .u32 0, .int .u32 0, .int .u32 0, .int .u32 0, .int .u32 0, .string ⟨#[]⟩] 58) := Lib.hid HY.out
    go_wp2_with (refine wpList_store_at rfl 58 (.tmp 4) (.tmp 49) rfl Y #[.int .i64 0, .slice none 0 0, .int .i64 0, .int .i64 0, .int .i64 0, .int .i64 0, .int .i64 0, .int .u32 0, .int .u32 0, .int .u32 0, .int .u32 0, .int .u32 0, .int .u32 0, .int .u32 0, .int .u32 0, .string ⟨#[]⟩] rfl rfl 58 _ HY.out size_chunk rfl (by simp [Value.oneCell']) ?_)
    intro w9 HW9
    have HY9 : Hid (At w9 Y #[.int .i64 0, .slice none 0 0, .int .i64 0, .int .i64 0, .int .i64 0, .int .i64 0, .int .i64 0, .int .u32 0, .int .u32 0, .int .u32 0, .int .u32 0, .int .u32 0, .int .u32 0, .int .u32 0, .int .u32 0, .string ⟨#[]⟩] 58) := Lib.hid (by rw [HW9.out]; exact HY.out.row)
    have HB9 : Hid (Below w.heap.size w w9) := Lib.hid (by rw [HW9.out]; exact below_row HB.out _ _ (by have := HN.out; omega))
    go_wp2_with fail
    refine bodyPost_ret (results_row_tmp rfl _ _ Y 58 _ _ rfl HY9.out Tryz.underlying58 rfl size_chunk) rfl ⟨HB9.out, .inr ⟨by rw [HE.out]; decide, by rw [HE.out]; rfl⟩⟩
  · by_cases h6 : CR.Whole (s.extract o (o + q))
    · have HE : Hid (chE s x = 0) := Lib.hid (by rw [HO.out, if_neg (by rw [HPS.out]; omega), if_pos h6])
      have HCO := fun w => CR.openR_good (s.extract o (o + q)) (by rw [HPS.out]; omega) (by rw [HPS.out]; omega) h6 w
      have HC := Lib.hid HCO
      clear HO h5 HCO h6
      go_enter Tryz.func22, Tryz.ntmps22
      go_upto_region 1 with fail
      change Code.wp _ _ _ _ ((w.alloc (.cells V 52)).alloc (.cells #[.int .i64 0, .slice none 0 0, .int .i64 0, .int .i64 0, .int .i64 0, .int .i64 0, .int .i64 0, .int .u32 0, .int .u32 0, .int .u32 0, .int .u32 0, .int .u32 0, .int .u32 0, .int .u32 0, .int .u32 0, .string ⟨#[]⟩] 58))
      generalize (w.alloc (.cells V 52)).alloc (.cells #[.int .i64 0, .slice none 0 0, .int .i64 0, .int .i64 0, .int .i64 0, .int .i64 0, .int .i64 0, .int .u32 0, .int .u32 0, .int .u32 0, .int .u32 0, .int .u32 0, .int .u32 0, .int .u32 0, .int .u32 0, .string ⟨#[]⟩] 58) = w0 at *
      rw [HYE.out]
      go_upto_region 3 with fail
      clear h1 h2 h3 h4
      go_wp2_with fail
      refine (HC.out w0).mono ?_
      rintro e w1 ⟨rfl, hb⟩
      replace HY := Lib.hid (HY.out.below hb)
      replace HX := Lib.hid (HX.out.below hb)
      replace HB := Lib.hid (HB.out.trans (hb.mono HB.out.size))
      clear hb x15 x16
      have HD := Lib.hid (HCH.out _ rfl)
      obtain ⟨D, hD⟩ : ∃ D, CR.body (s.extract o (o + q)) = D := ⟨_, rfl⟩
      rw [hD] at HD
      rw [hD]
      clear hD HC
      rw [HV.out] at HX
      have e0 : w1.cell? ⟨w.heap.size, 0, none⟩ = some (.int .i64 x.sig) := HX.out.cell 0
      have e1 : w1.cell? ⟨w.heap.size, 1, none⟩ = some (.slice A n c) := HX.out.cell 1
      have HZ : Hid (w1.rangeAt w.heap.size 2 [.int .i64 x.zone.count, .int .i64 x.zone.minT, .int .i64 x.zone.maxT, .int .i64 x.zone.minV, .int .i64 x.zone.maxV, .int .u32 x.zone.b0, .int .u32 x.zone.b1, .int .u32 x.zone.b2, .int .u32 x.zone.b3, .int .u32 x.zone.b4, .int .u32 x.zone.b5, .int .u32 x.zone.b6, .int .u32 x.zone.b7]) := Lib.hid (World.rangeAt_of_block (n := 13) HX.out.out 2)
      go_upto_region 6 with fail
      go_wp2_with (first | (refine wpList_load_mid rfl 50 (.tmp 55) rfl w.heap.size 2 rfl _ _ HZ.out Tryz.underlying50 rfl size_zone ?_) | (refine wpList_store_at rfl 58 (.tmp 4) (.tmp 58) rfl Y (chC x.sig A n c x.zone D) rfl rfl 58 _ HY.out size_chunk rfl (chC_one _ _ _ _ _ _) ?_))
      intro w9 HW9
      have HY9 : Hid (At w9 Y (chC x.sig A n c x.zone D) 58) := Lib.hid (by rw [HW9.out]; exact HY.out.row)
      have HB9 : Hid (Below w.heap.size w w9) := Lib.hid (by rw [HW9.out]; exact below_row HB.out _ _ (by have := HN.out; omega))
      go_wp2_with fail
      refine bodyPost_ret (results_row_tmp rfl _ _ Y 58 _ _ rfl HY9.out Tryz.underlying58 rfl size_chunk) rfl ⟨HB9.out, .inl ⟨HE.out, by rw [HD.out]; rfl⟩⟩
    · have HE : Hid (chE s x = 13) := Lib.hid (by rw [HO.out, if_neg (by rw [HPS.out]; omega), if_neg h6])
      have HCO := fun w => CR.openR_bad (s.extract o (o + q)) (by rw [HPS.out]; omega) (by rw [HPS.out]; omega) h6 w
      have HC := Lib.hid HCO
      clear HO h5 HCO h6
      go_enter Tryz.func22, Tryz.ntmps22
      go_upto_region 1 with fail
      change Code.wp _ _ _ _ ((w.alloc (.cells V 52)).alloc (.cells #[.int .i64 0, .slice none 0 0, .int .i64 0, .int .i64 0, .int .i64 0, .int .i64 0, .int .i64 0, .int .u32 0, .int .u32 0, .int .u32 0, .int .u32 0, .int .u32 0, .int .u32 0, .int .u32 0, .int .u32 0, .string ⟨#[]⟩] 58))
      generalize (w.alloc (.cells V 52)).alloc (.cells #[.int .i64 0, .slice none 0 0, .int .i64 0, .int .i64 0, .int .i64 0, .int .i64 0, .int .i64 0, .int .u32 0, .int .u32 0, .int .u32 0, .int .u32 0, .int .u32 0, .int .u32 0, .int .u32 0, .int .u32 0, .string ⟨#[]⟩] 58) = w0 at *
      rw [HYE.out]
      go_upto_region 3 with fail
      clear h1 h2 h3 h4
      go_wp2_with fail
      refine (HC.out w0).mono ?_
      rintro e w1 ⟨rfl, hb⟩
      replace HY := Lib.hid (HY.out.below hb)
      replace HB := Lib.hid (HB.out.trans (hb.mono HB.out.size))
      clear hb x15 x16
      go_upto_region 5 with fail
      replace HY : Hid (At _ Y #[.int .i64 0, .slice none 0 0, .int .i64 0, .int .i64 0, .int .i64 0, .int .i64 0, .int .i64 0, .int .u32 0, .int .u32 0, .int .u32 0, .int .u32 0, .int .u32 0, .int .u32 0, .int .u32 0, .int .u32 0, .string ⟨#[]⟩] 58) := Lib.hid HY.out
      go_wp2_with (refine wpList_store_at rfl 58 (.tmp 4) (.tmp 49) rfl Y #[.int .i64 0, .slice none 0 0, .int .i64 0, .int .i64 0, .int .i64 0, .int .i64 0, .int .i64 0, .int .u32 0, .int .u32 0, .int .u32 0, .int .u32 0, .int .u32 0, .int .u32 0, .int .u32 0, .int .u32 0, .string ⟨#[]⟩] rfl rfl 58 _ HY.out size_chunk rfl (by simp [Value.oneCell']) ?_)
      intro w9 HW9
      have HY9 : Hid (At w9 Y #[.int .i64 0, .slice none 0 0, .int .i64 0, .int .i64 0, .int .i64 0, .int .i64 0, .int .i64 0, .int .u32 0, .int .u32 0, .int .u32 0, .int .u32 0, .int .u32 0, .int .u32 0, .int .u32 0, .int .u32 0, .string ⟨#[]⟩] 58) := Lib.hid (by rw [HW9.out]; exact HY.out.row)
      have HB9 : Hid (Below w.heap.size w w9) := Lib.hid (by rw [HW9.out]; exact below_row HB.out _ _ (by have := HN.out; omega))
      go_wp2_with fail
      refine bodyPost_ret (results_row_tmp rfl _ _ Y 58 _ _ rfl HY9.out Tryz.underlying58 rfl size_chunk) rfl ⟨HB9.out, .inr ⟨by rw [HE.out]; decide, by rw [HE.out]; rfl⟩⟩
end Go.Proofs.YtoojpfcnekpboaaGreat

namespace Go.Proofs.YtoojpfcnekpboaaGreat
open Go.RowKit Go.Shelf

set_option maxRecDepth 100000 in
set_option maxHeartbeats 1000000 in
theorem dirR_any (s : ByteArray) (w : World) (hs : s.size ≤ 100000) :
    Calls Tryz.prog 11 #[.string s] w (DrPost s w) := by
  have HS := Lib.hid hs
  clear hs
  go_enter Tryz.func11, Tryz.ntmps11
  go_wp2_with fail
  refine (qread_any s w HS.out).mono ?_
  rintro e w1 ⟨hb, ⟨hop, A, c, rfl, hI, hIc⟩ | ⟨hop, rfl⟩⟩
  · have HB := Lib.hid hb
    have HI := Lib.hid hI
    have HIC := Lib.hid hIc
    have HOP := Lib.hid hop
    clear hb hI hIc hop
    obtain ⟨v1, hv1⟩ : ∃ v, (opR s).id = v := ⟨_, rfl⟩
    obtain ⟨v2, hv2⟩ : ∃ v, (opR s).width = v := ⟨_, rfl⟩
    obtain ⟨v3, hv3⟩ : ∃ v, (opR s).fr = v := ⟨_, rfl⟩
    obtain ⟨its, hits⟩ : ∃ its, (opR s).items = its := ⟨_, rfl⟩
    rw [hits] at HI HIC
    have HEQ : Hid ((opR s).id = v1 ∧ (opR s).width = v2 ∧ (opR s).items = its) := Lib.hid ⟨hv1, hv2, hits⟩
    rw [hv1, hv2, hv3, hits]
    clear hv1 hv2 hv3 hits
    have HBX := Lib.hid (At.new w1 zB 25)
    obtain ⟨V, hV⟩ : ∃ V, V = blC ⟨v1, v2, v3, []⟩ none 0 := ⟨_, rfl⟩
    rw [← hV]
    have hcs : V.size = 4 := by rw [hV]; rfl
    have HV1 : Hid ((V.all fun v => v.oneCell') = true) := Lib.hid (by rw [hV]; exact blC_one _ _ _)
    have HV := Lib.hid hV
    clear hV
    go_wp2_with (refine wpList_store_at rfl 25 (.tmp 6) (.tmp 12) rfl w1.heap.size V rfl rfl 25 zB HBX.out (by rw [hcs]; exact size_blk) (by rw [hcs]; rfl) HV1.out ?_)
    intro w2 HW2
    have HRR : Hid (Below w1.heap.size w1 w2) := Lib.hid (by rw [HW2.out]; exact below_row ((Below.refl _ _).alloc (Nat.le_refl _) _) _ _ (Nat.le_refl _))
    have HBX2 : Hid (At w2 w1.heap.size (blC ⟨v1, v2, v3, []⟩ none 0) 25) := Lib.hid (by rw [HW2.out, ← HV.out]; exact HBX.out.row)
    replace HI := Lib.hid (HI.out.kt (KT.below HRR.out) (KT.below HRR.out))
    replace HB := Lib.hid (HB.out.trans (HRR.out.mono HB.out.size))
    clear HW2 HRR HBX hcs HV1 HV
    generalize w1.heap.size = Bb at *
    have x0 : w2.cell? ⟨Bb, 0, none⟩ = some (.int .i64 v1) := HBX2.out.cell 0
    have x1 : w2.cell? ⟨Bb, 1, none⟩ = some (.int .i64 v2) := HBX2.out.cell 1
    have HDR : Hid (∀ w', w'.heap = w2.heap → w'.output = w2.output → w'.os = w2.os → Below w.heap.size w w' → DrPost s w (.returned (.tuple #[.int .i64 v1, .int .i64 v2, .slice A its.length c, .int .i64 0])) w') := Lib.hid (fun w' h1 _ _ hb => by
      unfold DrPost
      rw [HEQ.out.1, HEQ.out.2.1, HEQ.out.2.2]
      have hk : ∀ E, KT E w2 w' := fun E => ⟨by rw [h1]; exact Nat.le_refl _, fun b cs fz h => by rw [h1]; exact h⟩
      exact ⟨hb, .inl ⟨HOP.out, A, c, rfl, HI.out.kt (hk _) (hk _), HIC.out⟩⟩)
    go_wp2_with fail
    go_quiet (fail)
    go_wp2_with fail
    (try simp only [Exit.inBlock, Exit.then])
    refine bodyPost_ret (results_tmp4 rfl _ _ _) rfl ?_
    exact HDR.out _ rfl rfl rfl (bN HB.out _)
  · have HB := Lib.hid hb
    have HOP := Lib.hid hop
    clear hb hop
    have HBX := Lib.hid (At.new w1 zB 25)
    obtain ⟨er, her⟩ : ∃ er, opE s = er := ⟨_, rfl⟩
    have HER := Lib.hid her
    rw [her]
    clear her
    go_wp2_with (refine wpList_store_at rfl 25 (.tmp 6) (.tmp 12) rfl w1.heap.size zB rfl rfl 25 zB HBX.out size_zB rfl zB_one ?_)
    intro w2 HW2
    have HRR : Hid (Below w1.heap.size w1 w2) := Lib.hid (by rw [HW2.out]; exact below_row ((Below.refl _ _).alloc (Nat.le_refl _) _) _ _ (Nat.le_refl _))
    have HBX2 : Hid (At w2 w1.heap.size zB 25) := Lib.hid (by rw [HW2.out]; exact HBX.out.row)
    replace HB := Lib.hid (HB.out.trans (HRR.out.mono HB.out.size))
    clear HW2 HRR HBX
    generalize w1.heap.size = Bb at *
    have x0 : w2.cell? ⟨Bb, 0, none⟩ = some (.int .i64 0) := HBX2.out.cell 0
    have x1 : w2.cell? ⟨Bb, 1, none⟩ = some (.int .i64 0) := HBX2.out.cell 1
    have HDR : Hid (∀ w', Below w.heap.size w w' → DrPost s w (.returned (.tuple #[.int .i64 0, .int .i64 0, .slice none 0 0, .int .i64 er])) w') := Lib.hid (fun w' hb => by
      unfold DrPost
      rw [← HER.out]
      exact ⟨hb, .inr ⟨HOP.out, rfl⟩⟩)
    go_wp2_with fail
    go_quiet (fail)
    go_wp2_with fail
    (try simp only [Exit.inBlock, Exit.then])
    refine bodyPost_ret (results_tmp4 rfl _ _ _) rfl ?_
    exact HDR.out _ (bN HB.out _)
end Go.Proofs.YtoojpfcnekpboaaGreat
