/- Walks: excluded and contradicts (the program's). Walks: needed (the program's). Walks: filtered (the program's), with a bound function value. -/
import Derived.Test.YthckgmbadmilfaaGreatMBA
namespace Go.Proofs.YthckgmbadmilfaaGreat
open Go.RowKit

theorem any_grp (ms : List Mt) (n : ByteArray) (p : Mt → Bool) : (grp ms n).any p = ms.any fun y => decide (y.name = n) && p y := by
  unfold grp
  rw [List.any_filter]
theorem excld_grp (ms : List Mt) (m : Mt) : (grp ms m.name).any (clX m) = excldM ms m := by
  rw [any_grp]
  unfold excldM clX
  congr 1
  funext y
  rcases decide (y.name = m.name) <;> rcases decide (y.kind = 3) <;> rfl
theorem contra_grp (ms : List Mt) (m : Mt) : (grp ms m.name).any (clC m) = ms.any fun y => decide (y.name = m.name) && decide (y.kind = 3) && apartM m.value y.value := by
  rw [any_grp]
  unfold clC
  congr 1
  funext y
  rcases decide (y.name = m.name) <;> rcases decide (y.kind = 3) <;> rfl
/-- What all walks over a set ask. -/
structure SzM (m : Mt) : Prop where
  name : m.name.size ≤ 100000
  value : m.value.size ≤ 40000
set_option maxRecDepth 100000 in
set_option maxHeartbeats 2000000 in
theorem excluded_any (b : Nat) (ms : List Mt) (m : Mt) (w : World) (hs : SetIn w.heap.size w b ms) (hm : SzM m) (hml : ms.length ≤ 1000) :
    Calls Tryz.prog 78 #[.agg #[.map (some b)], .agg #[.int .i64 m.kind, .string m.name, .string m.value]] w fun e w' => e = .returned (.bool (excldM ms m)) ∧ Below w.heap.size w w' := by
  have z1 : (w.alloc (.cells #[.map (some b)] 65)).heap.size = w.heap.size + 1 := by simp
  have a1 := At.new (w.alloc (.cells #[.map (some b)] 65)) #[.int .i64 m.kind, .string m.name, .string m.value] 39
  rw [z1] at a1
  have HX := Lib.hid a1
  have HB0 : Hid (Below w.heap.size w ((w.alloc (.cells #[.map (some b)] 65)).alloc (.cells #[.int .i64 m.kind, .string m.name, .string m.value] 39))) := Lib.hid (((Below.refl _ _).alloc (Nat.le_refl _) _).alloc (by simp) _)
  have HS := Lib.hid (((At.new w #[.map (some b)] 65)).alloc (.cells #[.int .i64 m.kind, .string m.name, .string m.value] 39))
  obtain ⟨A, c, hrun, hmt⟩ := (hs.below HB0.out).look m.name (by have := hm.name; unfold maxLen; omega)
  have hgl := grp_le ms m.name
  have hmt2 := hmt.mono HB0.out.size
  have eg : ∀ args w, (callFunc 110 args).run Tryz.prog w = .ok (.enter 110 args) w := enters_of Tryz.func110 (by kernel_rfl) rfl
  have HCF := Lib.hid (containsC_any 110 (w.heap.size + 1) (clX m) eg A c (grp ms m.name) _ hmt2 (by omega) (fun W y _ hb => excludedCl_any m y (w.heap.size + 1) W (HX.out.below hb) hm.value))
  rw [excld_grp] at HCF
  have HRUN := Lib.hid hrun
  clear a1 z1 hs hrun hmt hmt2 eg hm
  go_enter Tryz.func78, Tryz.ntmps78
  go_upto_region 1 with fail
  generalize (w.alloc (.cells #[.map (some b)] 65)).alloc (.cells #[.int .i64 m.kind, .string m.name, .string m.value] 39) = w0 at *
  have hrun := HRUN.out
  have c0 := HS.out.cell 0
  have d1 := HX.out.cell 1
  go_wp2_with fail
  refine HCF.out.mono ?_
  rintro e w1 ⟨rfl, hb⟩
  have HB1 := Lib.hid (HB0.out.trans (hb.mono HB0.out.size))
  clear hb HCF
  go_wp2_with fail
  go_ret
  exact ⟨rfl, HB1.out⟩
theorem contra_some {ms : List Mt} {m q : Mt} (h0 : ¬ (m.kind = 3 ∧ Rx.emptyR (bs m.value) = true)) (h : eqlM ms m.name = some q) : contraM ms m = !fitM m q.value := by
  unfold contraM
  rw [if_neg h0, h]
theorem contra_none {ms : List Mt} {m : Mt} (h0 : ¬ (m.kind = 3 ∧ Rx.emptyR (bs m.value) = true)) (h : eqlM ms m.name = none) : contraM ms m = (decide (m.kind = 3) && (grp ms m.name).any (clC m)) := by
  rw [contra_grp]
  unfold contraM
  rw [if_neg h0, h]
set_option maxRecDepth 100000 in
set_option maxHeartbeats 2000000 in
theorem contradicts_any (b : Nat) (ms : List Mt) (m : Mt) (w : World) (hs : SetIn w.heap.size w b ms) (hm : SzM m) (hq : ∀ q ∈ ms, q.value.size ≤ 40000) (hml : ms.length ≤ 1000) :
    Calls Tryz.prog 45 #[.agg #[.map (some b)], .agg #[.int .i64 m.kind, .string m.name, .string m.value]] w fun e w' => e = .returned (.bool (contraM ms m)) ∧ Below w.heap.size w w' := by
  have z1 : (w.alloc (.cells #[.map (some b)] 65)).heap.size = w.heap.size + 1 := by simp
  have a1 := At.new (w.alloc (.cells #[.map (some b)] 65)) #[.int .i64 m.kind, .string m.name, .string m.value] 39
  rw [z1] at a1
  have HX := Lib.hid a1
  have HB0 : Hid (Below w.heap.size w ((w.alloc (.cells #[.map (some b)] 65)).alloc (.cells #[.int .i64 m.kind, .string m.name, .string m.value] 39))) := Lib.hid (((Below.refl _ _).alloc (Nat.le_refl _) _).alloc (by simp) _)
  have HS := Lib.hid (((At.new w #[.map (some b)] 65)).alloc (.cells #[.int .i64 m.kind, .string m.name, .string m.value] 39))
  have HSET := Lib.hid hs
  have HQ := Lib.hid hq
  have HMS := Lib.hid hm
  clear a1 z1 hs hq hm
  go_enter Tryz.func45, Tryz.ntmps45
  go_upto_region 1 with fail
  generalize (w.alloc (.cells #[.map (some b)] 65)).alloc (.cells #[.int .i64 m.kind, .string m.name, .string m.value] 39) = w0 at *
  have c0 := HX.out.cell 0
  have c2 := HX.out.cell 2
  by_cases h3 : m.kind = 3
  · have h3b : (m.kind == 3) = true := by rw [h3]; rfl
    have HE := Lib.hid (empty_any m.value w0)
    rcases he : Rx.emptyR (bs m.value) with _ | _
    · have h0 : ¬ (m.kind = 3 ∧ Rx.emptyR (bs m.value) = true) := by rw [he]; simp
      rw [he] at HE
      clear he
      go_wp2_with fail
      refine HE.out.mono ?_
      rintro e w1 ⟨rfl, hb⟩
      have HB1 := Lib.hid (HB0.out.trans (hb.mono HB0.out.size))
      have HX1 := Lib.hid (HX.out.below hb)
      have HS1 := Lib.hid (HS.out.below hb)
      clear hb HE c0 c2 HX HS
      have hz := HSET.out.below HB1.out |>.mono HB1.out.size
      have HF := Lib.hid (first_any b ms m.name w1 hz HMS.out.name hml)
      have HSZ := Lib.hid hz
      have c0 := HS1.out.cell 0
      have d1 := HX1.out.cell 1
      clear hz
      go_upto_region 3 with fail
      go_wp2_with fail
      refine HF.out.mono ?_
      rintro e w2 ⟨rfl, hb⟩
      have HB2 := Lib.hid (HB1.out.trans (hb.mono HB1.out.size))
      have HX2 := Lib.hid (HX1.out.below hb)
      have HS2 := Lib.hid (HS1.out.below hb)
      have HSET2 := Lib.hid ((HSZ.out.below hb).mono hb.size)
      clear hb HF c0 d1 HSZ HS1 HX1 HB1
      rcases he2 : eqlM ms m.name with _ | q
      · have HV : Hid (firstV ms m.name = .tuple #[.agg #[.int .i64 0, .string ⟨#[]⟩, .string ⟨#[]⟩], .bool false]) := Lib.hid (by unfold firstV; rw [he2])
        have HR := Lib.hid (contra_none h0 he2)
        rw [HV.out]
        have HB3 : Hid (Below w.heap.size w (w2.alloc (.cells #[.int .i64 0, .string ⟨#[]⟩, .string ⟨#[]⟩] 39))) := Lib.hid (HB2.out.alloc HB2.out.size _)
        have hbw : Below w2.heap.size w2 (w2.alloc (.cells #[.int .i64 0, .string ⟨#[]⟩, .string ⟨#[]⟩] 39)) := (Below.refl _ _).alloc (Nat.le_refl _) _
        have HX3 := Lib.hid (HX2.out.alloc (.cells #[.int .i64 0, .string ⟨#[]⟩, .string ⟨#[]⟩] 39))
        have HS3 := Lib.hid (HS2.out.alloc (.cells #[.int .i64 0, .string ⟨#[]⟩, .string ⟨#[]⟩] 39))
        have HSET3 := Lib.hid ((HSET2.out.below hbw).mono hbw.size)
        clear he2 hbw HV
        go_upto_region 4 with fail
        generalize w2.alloc (.cells #[.int .i64 0, .string ⟨#[]⟩, .string ⟨#[]⟩] 39) = w3 at *
        have c0 := HS3.out.cell 0
        have d0 := HX3.out.cell 0
        have d1 := HX3.out.cell 1
        have hkb : (m.kind != 3) = false := by rw [h3]; rfl
        obtain ⟨A, c, hrun, hmt⟩ := HSET3.out.look m.name (by have := HMS.out.name; unfold maxLen; omega)
        have hgl := grp_le ms m.name
        have eg : ∀ args w, (callFunc 76 args).run Tryz.prog w = .ok (.enter 76 args) w := enters_of Tryz.func76 (by kernel_rfl) rfl
        have HCF := Lib.hid (containsC_any 76 (w.heap.size + 1) (clC m) eg A c (grp ms m.name) w3 hmt (by omega) (fun W y _ hb => contraCl_any m y (w.heap.size + 1) W (HX3.out.below hb)))
        have HR2 : Hid (contraM ms m = (grp ms m.name).any (clC m)) := Lib.hid (by rw [HR.out, decide_eq_true h3]; rfl)
        clear h3 h0 h3b hmt eg hgl HR HSET3
        generalize (grp ms m.name).any (clC m) = r at *
        go_wp2_with fail
        refine HCF.out.mono ?_
        rintro e w4 ⟨rfl, hb⟩
        have HB4 := Lib.hid (HB3.out.trans (hb.mono HB3.out.size))
        clear hb HCF
        go_wp2_with fail
        go_ret
        exact ⟨ret_bool HR2.out.symm, HB4.out⟩
      · have HV : Hid (firstV ms m.name = .tuple #[.agg #[.int .i64 q.kind, .string q.name, .string q.value], .bool true]) := Lib.hid (by unfold firstV; rw [he2])
        have HR := Lib.hid (contra_some h0 he2)
        have hqv := HQ.out q (eql_some he2).1
        rw [HV.out]
        have HB3 : Hid (Below w.heap.size w (w2.alloc (.cells #[.int .i64 q.kind, .string q.name, .string q.value] 39))) := Lib.hid (HB2.out.alloc HB2.out.size _)
        have HX3 := Lib.hid (HX2.out.alloc (.cells #[.int .i64 q.kind, .string q.name, .string q.value] 39))
        have HQ3 := Lib.hid (At.new w2 #[.int .i64 q.kind, .string q.name, .string q.value] 39)
        clear he2 h3 h0 h3b HV
        go_upto_region 4 with fail
        generalize w2.alloc (.cells #[.int .i64 q.kind, .string q.name, .string q.value] 39) = w3 at *
        generalize w2.heap.size = Bq at *
        have HFI := Lib.hid (fit_any m q.value w3 hqv)
        have d0 := HX3.out.cell 0
        have d1 := HX3.out.cell 1
        have d2 := HX3.out.cell 2
        have q2 := HQ3.out.cell 2
        generalize fitM m q.value = r at *
        go_wp2_with fail
        refine HFI.out.mono ?_
        rintro e w4 ⟨rfl, hb⟩
        have HB4 := Lib.hid (HB3.out.trans (hb.mono HB3.out.size))
        clear hb HFI
        go_wp2_with fail
        go_ret
        exact ⟨ret_bool HR.out.symm, HB4.out⟩
    · have HR : Hid (contraM ms m = true) := Lib.hid (by unfold contraM; rw [if_pos ⟨h3, he⟩])
      rw [he] at HE
      clear h3 he
      go_wp2_with fail
      refine HE.out.mono ?_
      rintro e w1 ⟨rfl, hb⟩
      have HB1 := Lib.hid (HB0.out.trans (hb.mono HB0.out.size))
      clear hb HE
      go_wp2_with fail
      go_ret
      exact ⟨ret_bool HR.out.symm, HB1.out⟩
  · have h0 : ¬ (m.kind = 3 ∧ Rx.emptyR (bs m.value) = true) := fun h => h3 h.1
    have h3b : (m.kind == 3) = false := beq_eq_false_iff_ne.2 h3
    obtain ⟨w1, hw1⟩ : ∃ w1, w0 = w1 := ⟨_, rfl⟩
    rw [hw1] at HX HS HB0 c0 c2
    rw [hw1]
    have HX1 := HX
    have HS1 := HS
    have HB1 := HB0
    clear hw1 HX HS HB0 c2
    have e0 := c0
    clear c0
    have hz := HSET.out.below HB1.out |>.mono HB1.out.size
    have HF := Lib.hid (first_any b ms m.name w1 hz HMS.out.name hml)
    have HSZ := Lib.hid hz
    have c0 := HS1.out.cell 0
    have d1 := HX1.out.cell 1
    clear hz
    go_upto_region 3 with fail
    go_wp2_with fail
    refine HF.out.mono ?_
    rintro e w2 ⟨rfl, hb⟩
    have HB2 := Lib.hid (HB1.out.trans (hb.mono HB1.out.size))
    have HX2 := Lib.hid (HX1.out.below hb)
    have HS2 := Lib.hid (HS1.out.below hb)
    have HSET2 := Lib.hid ((HSZ.out.below hb).mono hb.size)
    clear hb HF c0 d1 HSZ HS1 HX1 HB1
    rcases he2 : eqlM ms m.name with _ | q
    · have HV : Hid (firstV ms m.name = .tuple #[.agg #[.int .i64 0, .string ⟨#[]⟩, .string ⟨#[]⟩], .bool false]) := Lib.hid (by unfold firstV; rw [he2])
      have HR := Lib.hid (contra_none h0 he2)
      rw [HV.out]
      have HB3 : Hid (Below w.heap.size w (w2.alloc (.cells #[.int .i64 0, .string ⟨#[]⟩, .string ⟨#[]⟩] 39))) := Lib.hid (HB2.out.alloc HB2.out.size _)
      have hbw : Below w2.heap.size w2 (w2.alloc (.cells #[.int .i64 0, .string ⟨#[]⟩, .string ⟨#[]⟩] 39)) := (Below.refl _ _).alloc (Nat.le_refl _) _
      have HX3 := Lib.hid (HX2.out.alloc (.cells #[.int .i64 0, .string ⟨#[]⟩, .string ⟨#[]⟩] 39))
      have HS3 := Lib.hid (HS2.out.alloc (.cells #[.int .i64 0, .string ⟨#[]⟩, .string ⟨#[]⟩] 39))
      have HSET3 := Lib.hid ((HSET2.out.below hbw).mono hbw.size)
      clear he2 hbw HV
      go_upto_region 4 with fail
      generalize w2.alloc (.cells #[.int .i64 0, .string ⟨#[]⟩, .string ⟨#[]⟩] 39) = w3 at *
      have c0 := HS3.out.cell 0
      have d0 := HX3.out.cell 0
      have d1 := HX3.out.cell 1
      have hkb : (m.kind != 3) = true := by simpa using h3
      have HR2 : Hid (contraM ms m = false) := Lib.hid (by rw [HR.out, decide_eq_false h3]; rfl)
      clear h3 h0 h3b HR
      go_wp2_with fail
      go_ret
      exact ⟨ret_bool HR2.out.symm, HB3.out⟩
    · have HV : Hid (firstV ms m.name = .tuple #[.agg #[.int .i64 q.kind, .string q.name, .string q.value], .bool true]) := Lib.hid (by unfold firstV; rw [he2])
      have HR := Lib.hid (contra_some h0 he2)
      have hqv := HQ.out q (eql_some he2).1
      rw [HV.out]
      have HB3 : Hid (Below w.heap.size w (w2.alloc (.cells #[.int .i64 q.kind, .string q.name, .string q.value] 39))) := Lib.hid (HB2.out.alloc HB2.out.size _)
      have HX3 := Lib.hid (HX2.out.alloc (.cells #[.int .i64 q.kind, .string q.name, .string q.value] 39))
      have HQ3 := Lib.hid (At.new w2 #[.int .i64 q.kind, .string q.name, .string q.value] 39)
      clear he2 h3 h0 h3b HV
      go_upto_region 4 with fail
      generalize w2.alloc (.cells #[.int .i64 q.kind, .string q.name, .string q.value] 39) = w3 at *
      generalize w2.heap.size = Bq at *
      have HFI := Lib.hid (fit_any m q.value w3 hqv)
      have d0 := HX3.out.cell 0
      have d1 := HX3.out.cell 1
      have d2 := HX3.out.cell 2
      have q2 := HQ3.out.cell 2
      generalize fitM m q.value = r at *
      go_wp2_with fail
      refine HFI.out.mono ?_
      rintro e w4 ⟨rfl, hb⟩
      have HB4 := Lib.hid (HB3.out.trans (hb.mono HB3.out.size))
      clear hb HFI
      go_wp2_with fail
      go_ret
      exact ⟨ret_bool HR.out.symm, HB4.out⟩
end Go.Proofs.YthckgmbadmilfaaGreat

namespace Go.Proofs.YthckgmbadmilfaaGreat
open Go.RowKit

theorem need_some {ms : List Mt} {m q : Mt} (h : eqlM ms m.name = some q) : needM ms m = decide (m = q) := by
  unfold needM
  rw [h]
theorem need_none {ms : List Mt} {m : Mt} (h : eqlM ms m.name = none) : needM ms m = if m.kind = 4 ∧ Rx.emptyR (bs m.value) = true then false else !excldM ms m := by
  unfold needM
  rw [h]
theorem eqM (m q : Mt) : ((m.kind == q.kind) && ((m.name.toList == q.name.toList) && (m.value.toList == q.value.toList))) = decide (m = q) := by
  rw [eqS, eqS, Bool.eq_iff_iff]
  simp only [Bool.and_eq_true, beq_iff_eq, decide_eq_true_eq]
  exact ⟨fun ⟨a, b, c⟩ => Mt.ext' a b c, fun h => by subst h; exact ⟨rfl, rfl, rfl⟩⟩
set_option maxRecDepth 100000 in
set_option maxHeartbeats 2000000 in
theorem needed_any (b : Nat) (ms : List Mt) (m : Mt) (w : World) (hs : SetIn w.heap.size w b ms) (hm : SzM m) (hml : ms.length ≤ 1000) :
    Calls Tryz.prog 47 #[.agg #[.map (some b)], .agg #[.int .i64 m.kind, .string m.name, .string m.value]] w fun e w' => e = .returned (.bool (needM ms m)) ∧ Below w.heap.size w w' := by
  have z1 : (w.alloc (.cells #[.map (some b)] 65)).heap.size = w.heap.size + 1 := by simp
  have a1 := At.new (w.alloc (.cells #[.map (some b)] 65)) #[.int .i64 m.kind, .string m.name, .string m.value] 39
  rw [z1] at a1
  have HX := Lib.hid a1
  have HB0 : Hid (Below w.heap.size w ((w.alloc (.cells #[.map (some b)] 65)).alloc (.cells #[.int .i64 m.kind, .string m.name, .string m.value] 39))) := Lib.hid (((Below.refl _ _).alloc (Nat.le_refl _) _).alloc (by simp) _)
  have HS := Lib.hid (((At.new w #[.map (some b)] 65)).alloc (.cells #[.int .i64 m.kind, .string m.name, .string m.value] 39))
  have HSET := Lib.hid hs
  have HMS := Lib.hid hm
  clear a1 z1 hs hm
  go_enter Tryz.func47, Tryz.ntmps47
  go_upto_region 1 with fail
  generalize (w.alloc (.cells #[.map (some b)] 65)).alloc (.cells #[.int .i64 m.kind, .string m.name, .string m.value] 39) = w0 at *
  have hz := (HSET.out.below HB0.out).mono HB0.out.size
  have HF := Lib.hid (first_any b ms m.name w0 hz HMS.out.name hml)
  have HSZ := Lib.hid hz
  have c0 := HS.out.cell 0
  have d1 := HX.out.cell 1
  clear hz
  go_wp2_with fail
  refine HF.out.mono ?_
  rintro e w2 ⟨rfl, hb⟩
  have HB2 := Lib.hid (HB0.out.trans (hb.mono HB0.out.size))
  have HX2 := Lib.hid (HX.out.below hb)
  have HS2 := Lib.hid (HS.out.below hb)
  have HSET2 := Lib.hid ((HSZ.out.below hb).mono hb.size)
  clear hb HF c0 d1 HSZ HS HX HB0
  rcases he2 : eqlM ms m.name with _ | q
  · have HV : Hid (firstV ms m.name = .tuple #[.agg #[.int .i64 0, .string ⟨#[]⟩, .string ⟨#[]⟩], .bool false]) := Lib.hid (by unfold firstV; rw [he2])
    have HR := Lib.hid (need_none he2)
    rw [HV.out]
    have HB3 : Hid (Below w.heap.size w (w2.alloc (.cells #[.int .i64 0, .string ⟨#[]⟩, .string ⟨#[]⟩] 39))) := Lib.hid (HB2.out.alloc HB2.out.size _)
    have hbw : Below w2.heap.size w2 (w2.alloc (.cells #[.int .i64 0, .string ⟨#[]⟩, .string ⟨#[]⟩] 39)) := (Below.refl _ _).alloc (Nat.le_refl _) _
    have HX3 := Lib.hid (HX2.out.alloc (.cells #[.int .i64 0, .string ⟨#[]⟩, .string ⟨#[]⟩] 39))
    have HS3 := Lib.hid (HS2.out.alloc (.cells #[.int .i64 0, .string ⟨#[]⟩, .string ⟨#[]⟩] 39))
    have HSET3 := Lib.hid ((HSET2.out.below hbw).mono hbw.size)
    clear he2 hbw HV
    go_upto_region 2 with fail
    generalize w2.alloc (.cells #[.int .i64 0, .string ⟨#[]⟩, .string ⟨#[]⟩] 39) = w3 at *
    have c0 := HS3.out.cell 0
    have d0 := HX3.out.cell 0
    have d1 := HX3.out.cell 1
    have d2 := HX3.out.cell 2
    by_cases h4 : m.kind = 4
    · have h4b : (m.kind == 4) = true := by rw [h4]; rfl
      have HE := Lib.hid (empty_any m.value w3)
      rcases he : Rx.emptyR (bs m.value) with _ | _
      · have HR2 : Hid (needM ms m = !excldM ms m) := Lib.hid (by rw [HR.out, if_neg (by rw [he]; simp)])
        rw [he] at HE
        clear he h4 HR
        go_wp2_with fail
        refine HE.out.mono ?_
        rintro e w4 ⟨rfl, hb⟩
        have HB4 := Lib.hid (HB3.out.trans (hb.mono HB3.out.size))
        have HX4 := Lib.hid (HX3.out.below hb)
        have HS4 := Lib.hid (HS3.out.below hb)
        have HEX := Lib.hid (excluded_any b ms m w4 ((HSET3.out.below hb).mono hb.size) HMS.out hml)
        clear hb HE c0 d0 d1 d2 HX3 HS3 HSET3
        have c0 := HS4.out.cell 0
        have d0 := HX4.out.cell 0
        have d1 := HX4.out.cell 1
        have d2 := HX4.out.cell 2
        generalize excldM ms m = r at *
        go_wp2_with fail
        refine HEX.out.mono ?_
        rintro e w5 ⟨rfl, hb⟩
        have HB5 := Lib.hid (HB4.out.trans (hb.mono HB4.out.size))
        clear hb HEX
        go_wp2_with fail
        go_ret
        exact ⟨ret_bool HR2.out.symm, HB5.out⟩
      · have HR2 : Hid (needM ms m = false) := Lib.hid (by rw [HR.out, if_pos ⟨h4, he⟩])
        rw [he] at HE
        clear he h4 HR
        go_wp2_with fail
        refine HE.out.mono ?_
        rintro e w4 ⟨rfl, hb⟩
        have HB4 := Lib.hid (HB3.out.trans (hb.mono HB3.out.size))
        clear hb HE
        go_wp2_with fail
        go_ret
        exact ⟨ret_bool HR2.out.symm, HB4.out⟩
    · have h4b : (m.kind == 4) = false := beq_eq_false_iff_ne.2 h4
      have HR2 : Hid (needM ms m = !excldM ms m) := Lib.hid (by rw [HR.out, if_neg (fun h => h4 h.1)])
      have HEX := Lib.hid (excluded_any b ms m w3 HSET3.out HMS.out hml)
      clear h4 HR
      generalize excldM ms m = r at *
      go_wp2_with fail
      refine HEX.out.mono ?_
      rintro e w5 ⟨rfl, hb⟩
      have HB5 := Lib.hid (HB3.out.trans (hb.mono HB3.out.size))
      clear hb HEX
      go_wp2_with fail
      go_ret
      exact ⟨ret_bool HR2.out.symm, HB5.out⟩
  · have HV : Hid (firstV ms m.name = .tuple #[.agg #[.int .i64 q.kind, .string q.name, .string q.value], .bool true]) := Lib.hid (by unfold firstV; rw [he2])
    have HR := Lib.hid (need_some he2)
    have HEQ := Lib.hid (eqM m q)
    rw [HV.out]
    have HB3 : Hid (Below w.heap.size w (w2.alloc (.cells #[.int .i64 q.kind, .string q.name, .string q.value] 39))) := Lib.hid (HB2.out.alloc HB2.out.size _)
    have HX3 := Lib.hid (HX2.out.alloc (.cells #[.int .i64 q.kind, .string q.name, .string q.value] 39))
    have HQ3 := Lib.hid (At.new w2 #[.int .i64 q.kind, .string q.name, .string q.value] 39)
    clear he2 HV
    go_upto_region 2 with fail
    generalize w2.alloc (.cells #[.int .i64 q.kind, .string q.name, .string q.value] 39) = w3 at *
    generalize w2.heap.size = Bq at *
    have d0 := HX3.out.cell 0
    have d1 := HX3.out.cell 1
    have d2 := HX3.out.cell 2
    have q0 := HQ3.out.cell 0
    have q1 := HQ3.out.cell 1
    have q2 := HQ3.out.cell 2
    go_wp2_with fail
    all_goals
      go_ret
      refine ⟨ret_bool ?_, HB3.out⟩
      rw [HR.out, ← HEQ.out]
      simp [*]
end Go.Proofs.YthckgmbadmilfaaGreat

namespace Go.Proofs.YthckgmbadmilfaaGreat
open Go.RowKit

theorem mt_one (x : Mt) : (x.cells.all fun v => v.oneCell') = true := by simp [Mt.cells, Value.oneCell']
set_option maxRecDepth 100000 in
set_option maxHeartbeats 2000000 in
theorem filteredB_any (g : Nat) (b : Nat) (p : Mt → Bool) (eg : ∀ args w, (callFunc g args).run Tryz.prog w = .ok (.enter g args) w) (A : Option Addr) (c : Nat) (gs : List Mt) (w : World) (hm : MtsIn w.heap.size w A gs) (hl : gs.length ≤ 100000)
    (hp : ∀ (W : World) (y : Mt), y ∈ gs → Below w.heap.size w W → Calls Tryz.prog g #[.agg #[.map (some b)], .agg #[.int .i64 y.kind, .string y.name, .string y.value]] W fun e w' => e = .returned (.bool (p y)) ∧ Below W.heap.size W w') :
    Calls Tryz.prog 46 #[.slice A gs.length c, .func (.func g) #[.agg #[.map (some b)]] #[]] w fun e w' => ∃ A' n' c', e = .returned (.slice A' n' c') ∧ SR w 39 3 A' n' c' ((gs.filter p).map Mt.cells) w' := by
  obtain ⟨i0, hi, hz0, hz1, hz2⟩ := info_parts info_mt
  have HI := Lib.hid hi
  have HZ0 := Lib.hid hz0
  have HZ1 := Lib.hid hz1
  have HZ2 := Lib.hid hz2
  have HM := Lib.hid hm
  have HP := Lib.hid hp
  clear hm hp hi hz0 hz1 hz2
  go_enter Tryz.func46, Tryz.ntmps46
  go_wp2_with fail
  go_loopw [5, 10] (fun v i wr => ∃ (k : Nat) (A1 : Option Addr) (n1 c1 : Nat), k ≤ gs.length ∧ v = .slice A1 n1 c1 ∧ i = .int .i64 k ∧ Hid (SR w 39 3 A1 n1 c1 (((gs.take k).filter p).map Mt.cells) wr)) (fun _ i _ => gs.length - (intOf i).toNat)
  case atStart => exact ⟨0, none, 0, 0, Nat.zero_le _, rfl, rfl, Lib.hid (SR.nil _ _ (Below.refl _ _))⟩
  case round =>
    obtain ⟨k, A1, n1, c1, hk, rfl, rfl, HS⟩ := hrel
    have HB := Lib.hid HS.out.below
    by_cases hlt : k < gs.length
    · obtain ⟨q, o, rfl, hg, c0, cc1, c2⟩ := (HM.out.below HB.out).at_ k hlt
      have HTK : Hid (gs.take (k + 1) = gs.take k ++ [gs[k]]) := Lib.hid (List.take_succ_eq_append_getElem hlt)
      have hbw : Below wr.heap.size wr (wr.alloc (.cells #[.int .i64 (gs[k]).kind, .string (gs[k]).name, .string (gs[k]).value] 39)) := (Below.refl _ _).alloc (Nat.le_refl _) _
      have HC := Lib.hid (HP.out _ gs[k] (List.getElem_mem hlt) (HB.out.trans (hbw.mono HB.out.size)))
      have hn1 : n1 ≤ k := by
        have h1 := HS.out.len
        rw [List.length_map] at h1
        have h2 := List.length_filter_le p (gs.take k)
        rw [List.length_take] at h2
        omega
      obtain ⟨x, hx⟩ : ∃ x, gs[k] = x := ⟨_, rfl⟩
      rw [hx] at HTK HC c0 cc1 c2 hbw
      clear hx
      have HS1 := Lib.hid (HS.out.later hbw)
      have HX := Lib.hid (At.new wr #[.int .i64 x.kind, .string x.name, .string x.value] 39)
      clear hbw
      go_upto_region 5 with fail
      generalize wr.alloc (.cells #[.int .i64 x.kind, .string x.name, .string x.value] 39) = w1 at *
      generalize wr.heap.size = Bx at *
      have q0 := HX.out.cell 0
      have q1 := HX.out.cell 1
      have q2 := HX.out.cell 2
      rcases hpx : p x with _ | _
      · have HN : Hid (((gs.take (k + 1)).filter p) = (gs.take k).filter p) := Lib.hid (by rw [HTK.out, List.filter_append]; simp [hpx])
        rw [hpx] at HC
        have hcall := HC.out
        clear hpx HTK HC
        go_wp2_with fail
        refine hcall.mono ?_
        rintro e w2 ⟨rfl, hb⟩
        have HS2 : Hid (SR w 39 3 A1 n1 c1 (((gs.take (k + 1)).filter p).map Mt.cells) w2) := Lib.hid (by rw [HN.out]; exact HS1.out.later hb)
        clear hb hcall
        go_wp2_with fail
        go_roundw
        case rel => exact ⟨k + 1, A1, n1, c1, by omega, rfl, by go_num, HS2⟩
        case measure => simp [intOf]; omega
      · have HN : Hid (((gs.take (k + 1)).filter p) = (gs.take k).filter p ++ [x]) := Lib.hid (by rw [HTK.out, List.filter_append]; simp [hpx])
        rw [hpx] at HC
        have hcall := HC.out
        clear hpx HTK HC
        go_wp2_with fail
        refine hcall.mono ?_
        rintro e w2 ⟨rfl, hb⟩
        have HS2 := Lib.hid (HS1.out.later hb)
        have HX2 := Lib.hid (HX.out.below hb)
        clear hb hcall q0 q1 q2
        have q0 := HX2.out.cell 0
        have q1 := HX2.out.cell 1
        have q2 := HX2.out.cell 2
        go_wp2_with (at_builtin; (refine wpList_elem rfl (.tmp 17) (.tmp 19) 22 39 i0 _ 3 40 Tryz.underlying22 HI.out HZ0.out HZ1.out HZ2.out rfl (by decide) rfl HS2.out x.cells rfl (mt_one x) rfl rfl (by omega) (by decide) ?_))
        intro A3 n3 c3 l3 w3 HE3 hS3 hG3
        have HS3 : Hid (SR w 39 3 A3 n3 c3 (((gs.take (k + 1)).filter p).map Mt.cells) w3) := Lib.hid (by rw [HN.out, List.map_append]; rw [HE3.out] at hS3; exact hS3)
        clear hS3 hG3
        go_wp2_with fail
        go_roundw
        case rel => exact ⟨k + 1, A3, n3, c3, by omega, rfl, by go_num, HS3⟩
        case measure => simp [intOf]; omega
    · have HS3 : Hid (SR w 39 3 A1 n1 c1 ((gs.filter p).map Mt.cells) wr) := Lib.hid (by
        have h1 := HS.out
        rw [List.take_of_length_le (by omega)] at h1
        exact h1)
      go_wp2_with fail
      go_ret
      exact ⟨A1, n1, c1, rfl, HS3.out⟩
end Go.Proofs.YthckgmbadmilfaaGreat
