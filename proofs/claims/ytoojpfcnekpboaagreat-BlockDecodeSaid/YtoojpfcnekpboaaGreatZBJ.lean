/- Walks: a text of labels that is read (the reference's). -/
import Derived.Test.YtoojpfcnekpboaaGreatZBI
import Derived.Test.YtoojpfcnekpboaaGreatZBC
namespace Go.Proofs.YtoojpfcnekpboaaGreat
open Go.RowKit

theorem name_run {s : ByteArray} {f i : Nat} (h1 : f ≤ i) (h2 : i ≤ s.size) (ha : ∀ j (h : j < s.size), f ≤ j → j < i → letB5 s[j] = true) (hz : ∀ h : i < s.size, letB5 s[i] = false) :
    ((bs s).drop f).takeWhile letB5 = ((bs s).drop f).take (i - f) ∧ ((bs s).drop f).dropWhile letB5 = (bs s).drop i := by
  have e : (bs s).drop f = ((bs s).drop f).take (i - f) ++ (bs s).drop i := by
    have h := (List.take_append_drop (i - f) ((bs s).drop f)).symm
    rw [List.drop_drop, show f + (i - f) = i by omega] at h
    exact h
  have hall : ∀ c ∈ ((bs s).drop f).take (i - f), letB5 c = true := fun c hc => by
    obtain ⟨j, hj, rfl⟩ := List.getElem_of_mem hc
    rw [List.length_take, List.length_drop, bs_length] at hj
    rw [List.getElem_take, List.getElem_drop]
    exact ha (f + j) (by omega) (by omega) (by omega)
  have hr : ((bs s).drop i).takeWhile letB5 = [] ∧ ((bs s).drop i).dropWhile letB5 = (bs s).drop i := by
    by_cases hi : i < s.size
    · have := hz hi
      rw [drop_byte hi]
      simp [this]
    · rw [drop_end (by omega)]
      exact ⟨rfl, rfl⟩
  constructor
  · conv => lhs; rw [e]
    rw [List.takeWhile_append_of_pos hall, hr.1, List.append_nil]
  · conv => lhs; rw [e]
    rw [List.dropWhile_append_of_pos hall, hr.2]
/-- The scan of a name has come to an end. -/
structure NR (s : ByteArray) (f i : Nat) : Prop where mk ::
  le : f ≤ i
  lt : i ≤ s.size
  run : ((bs s).drop f).takeWhile letB5 = ((bs s).drop f).take (i - f)
  rest : ((bs s).drop f).dropWhile letB5 = (bs s).drop i
theorem NR.none0 {s : ByteArray} {f i : Nat} (h : NR s f i) (he : f = i) : lab1 ((bs s).drop f) = none := by
  unfold lab1
  rw [h.run, he, Nat.sub_self, List.take_zero, if_pos rfl]
theorem NR.none1 {s : ByteArray} {f i : Nat} (h : NR s f i) (he : s.size ≤ i + 1) : lab1 ((bs s).drop f) = none := by
  unfold lab1
  split
  · rfl
  · rw [h.rest]
    by_cases hi : i < s.size
    · rw [drop_byte hi, drop_end he]
    · rw [drop_end (by omega)]
theorem NR.none2 {s : ByteArray} {f i : Nat} (h : NR s f i) (hi : i + 1 < s.size) (he : ¬ (s[i] = 61 ∧ s[i + 1] = 34)) : lab1 ((bs s).drop f) = none := by
  unfold lab1
  split
  · rfl
  · rw [h.rest, drop_byte (show i < s.size by omega), drop_byte hi]
    simp only
    rw [if_neg he]
theorem NR.some_ {s : ByteArray} {f i : Nat} (h : NR s f i) (hne : f < i) (hi : i + 1 < s.size) (he : s[i] = 61 ∧ s[i + 1] = 34) : lab1 ((bs s).drop f) = (unqL ((bs s).drop (i + 2))).map fun p => (⟨s.extract f i, str p.1⟩, (bs s).drop (i + 2 + p.2)) := by
  unfold lab1
  have hl : ((bs s).drop f).take (i - f) ≠ [] := fun hn => by
    have := congrArg List.length hn
    rw [List.length_take, List.length_drop, bs_length] at this
    simp at this
    omega
  have hs : str (((bs s).drop f).take (i - f)) = s.extract f i := bs_inj (by rw [bs_str, bs_ext])
  rw [h.run, if_neg hl, h.rest, drop_byte (show i < s.size by omega), drop_byte hi]
  simp only
  rw [if_pos he, hs]
  congr 1
  funext p
  rw [List.drop_drop]
/-- Where the reference's reader of the list stands. -/
def LS (s : ByteArray) (acc : List Lab) (i : Nat) : Prop := (i = 0 ∧ acc = []) ∨ (0 < i ∧ ∃ k a x, acc = a ++ [x] ∧ PL s a k ∧ lab1 ((bs s).drop k) = some (x, (bs s).drop i) ∧ k < i)
theorem skB_at {s : ByteArray} {k : Nat} (c : UInt8) (h : k < s.size) : skB s (oneS c) k = decide (s[k] = c) := by
  unfold skB
  rw [drop_byte h]
  refine decide_eq_decide.2 ?_
  show [s[k]] = [c] ↔ _
  simp
theorem skB_out {s : ByteArray} {k : Nat} (c : UInt8) (h : s.size ≤ k) : skB s (oneS c) k = false := by
  unfold skB
  rw [drop_end h]
  rfl
theorem LS.enter {s : ByteArray} {acc : List Lab} {i : Nat} (h : LS s acc i) (hn : s.toList ≠ [123, 125]) (hi : i < s.size) (h0 : i = 0 → s[i] = 123) (h1 : i ≠ 0 → s[i] = 44) : PL s acc (i + 1) := by
  rcases h with ⟨rfl, rfl⟩ | ⟨hp, k, a, x, rfl, hP, hL, hk⟩
  · exact PL.start hn (by rw [skB_at 123 hi]; exact decide_eq_true (h0 rfl))
  · exact hP.step hL hk (by rw [skB_at 44 hi]; exact decide_eq_true (h1 (by omega))) (by omega)
theorem LS.done {s : ByteArray} {acc : List Lab} {i : Nat} (h : LS s acc i) (hp : 0 < i) (hi : i ≤ s.size) (h44 : ∀ h : i < s.size, s[i] ≠ 44) : parL (bs s) = if i + 1 = s.size ∧ (∀ h : i < s.size, s[i] = 125) then some acc else none := by
  rcases h with ⟨h0, _⟩ | ⟨_, k, a, x, rfl, hP, hL, hk⟩
  · omega
  · have hc : skB s (oneS 44) i = false := by
      by_cases hlt : i < s.size
      · rw [skB_at 44 hlt]; exact decide_eq_false (h44 hlt)
      · exact skB_out 44 (by omega)
    by_cases hd : skB s (oneS 125) i = true
    · have hlt : i < s.size := by
        by_cases hlt : i < s.size
        · exact hlt
        · rw [skB_out 125 (by omega)] at hd; cases hd
      rw [skB_at 125 hlt] at hd
      have hd2 := of_decide_eq_true hd
      rw [hP.end_ hL (by rw [skB_at 125 hlt]; exact hd) hi]
      by_cases he : i + 1 = s.size
      · rw [if_pos he, if_pos ⟨he, fun _ => hd2⟩]
      · rw [if_neg he, if_neg (fun h => he h.1)]
    · have hd : skB s (oneS 125) i = false := by simpa using hd
      rw [hP.neither hL hc hd, if_neg]
      rintro ⟨h1, h2⟩
      rw [skB_at 125 (by omega)] at hd
      exact of_decide_eq_false hd (h2 (by omega))
theorem parL_no0 {s : ByteArray} (hn : s.toList ≠ [123, 125]) (h : s.size = 0 ∨ ∃ h : 0 < s.size, s[0] ≠ 123) : parL (bs s) = none := by
  refine parL_nostart hn ?_
  rcases h with h | ⟨h, h2⟩
  · exact skB_out 123 (by omega)
  · rw [skB_at 123 h]
    exact decide_eq_false h2
/-- What 'list' answers. -/
def LRPost (s : ByteArray) (w : World) (e : Ending) (w' : World) : Prop := Below w.heap.size w w' ∧
  ((∃ ls A c, parL (bs s) = some ls ∧ e = .returned (.tuple #[.slice A ls.length c, .bool true]) ∧ ls.length ≤ c ∧ LabT w' A ls ∧ ∀ k, A.map (·.block) = some k → w.heap.size ≤ k) ∨ (parL (bs s) = none ∧ ∃ A n c, e = .returned (.tuple #[.slice A n c, .bool false])))
set_option maxRecDepth 100000 in
set_option maxHeartbeats 8000000 in
theorem listR_any (s : ByteArray) (w : World) (hs : s.size ≤ 1000000) :
    Calls Tryz.prog 130 #[.string s] w (LRPost s w) := by
  have HS := Lib.hid hs
  have hsi : (s.size : Int) ≤ 1000000 := by omega
  have HSR : Hid (SR w 66 2 (some ⟨w.heap.size, 0, none⟩) 0 0 [] (w.alloc (.cells #[] 66))) := Lib.hid (SR.empty _ _ (Below.refl _ _))
  clear hs
  go_enter Tryz.func130, Tryz.ntmps130
  go_upto_region 2 with fail
  generalize w.alloc (.cells #[] 66) = w0 at *
  by_cases he : s.toList = [123, 125]
  · have d1 : (s.toList == [123, 125]) = true := beq_iff_eq.2 he
    have HP : Hid (parL (bs s) = some []) := Lib.hid (by rw [← toList_bs, he]; rfl)
    clear he
    go_wp2_with fail
    go_ret2
    exact ⟨HSR.out.below, .inl ⟨[], _, 0, HP.out, rfl, Nat.le_refl _, ⟨HSR.out.rd, HSR.out.ty⟩, HSR.out.le⟩⟩
  have d1 : (s.toList == [123, 125]) = false := beq_eq_false_iff_ne.2 he
  have HNE := Lib.hid he
  by_cases hz : s.size = 0
  · have z1 := str_eq hz
    have HP := Lib.hid (parL_no0 he (.inl hz))
    clear he hz
    go_wp2_with fail
    go_ret2
    exact ⟨HSR.out.below, .inr ⟨HP.out, _, _, _, rfl⟩⟩
  have z1 := str_ne hz
  have hz0 : 0 < s.size := by omega
  obtain ⟨b0, hb0⟩ : ∃ b, s[0] = b := ⟨_, rfl⟩
  by_cases h123 : b0 = 123
  · subst h123
    go_upto_region 7 with fail
    go_loopw [4, 5] (fun l i wr => ∃ (k : Nat) (A : Option Addr) (n c : Nat) (acc : List Lab), k ≤ s.size ∧ l = .slice A n c ∧ i = .int .i64 k ∧ Hid (SR w 66 2 A n c (acc.map Lab.cells) wr) ∧ Hid (LS s acc k) ∧ Hid (n ≤ k)) (fun _ i _ => s.size - (intOf i).toNat)
    case atStart => exact ⟨0, _, 0, 0, [], Nat.zero_le _, rfl, rfl, HSR, Lib.hid (.inl ⟨rfl, rfl⟩), Lib.hid (Nat.le_refl _)⟩
    case round =>
      clear HSR
      obtain ⟨k, A, n, c, acc, hk, rfl, rfl, HSR, HL, HNK⟩ := hrel
      have HB0 := Lib.hid hb0
      clear he hz z1 d1
      by_cases hk0 : k = 0
      · have hks : k < s.size := by omega
        have HP := Lib.hid (HL.out.enter HNE.out hks (fun h => by simp only [hk0]; exact HB0.out) (fun h => absurd hk0 h))
        have hk0i : ((k : Int) == 0) = true := beq_iff_eq.2 (by omega)
        have hksi : (k : Int) < (s.size : Int) := by omega
        clear HB0 hb0 hz0 hk0 HL
        go_upto_region 8 with fail
        clear hk0i hksi
        obtain ⟨f, hf⟩ : ∃ f, k + 1 = f := ⟨_, rfl⟩
        rw [hf] at HP
        have HKF : Hid (k < f ∧ f ≤ s.size) := Lib.hid (by omega)
        have hfi : (k : Int) + 1 = (f : Int) := by omega
        obtain ⟨wo, hwo⟩ : ∃ wo, wo = wr := ⟨_, rfl⟩
        rw [← hwo] at HSR ⊢
        clear hwo hf
        go_wp2_with fail
        go_loopw [5] (fun i wi => ∃ j : Nat, f ≤ j ∧ j ≤ s.size ∧ i = .int .i64 j ∧ wi = wo ∧ Hid (∀ m (h : m < s.size), f ≤ m → m < j → letB5 s[m] = true)) (fun i _ => s.size - (intOf i).toNat)
        case atStart => exact ⟨f, Nat.le_refl _, HKF.out.2, rfl, rfl, Lib.hid (fun m _ h1 h2 => by omega)⟩
        case round =>
          obtain ⟨j, hfj, hj, rfl, hwi, HRUN⟩ := hrel
          have hwi2 := hwi.symm
          clear hwi
          subst hwi2
          have hjm : (j : Int) ≤ 1000000 := by omega
          by_cases hjs : j < s.size
          · have hji : (j : Int) < (s.size : Int) := by omega
            have HRN := Lib.hid (fun (h : letB5 s[j] = true) (m : Nat) (hm : m < s.size) (h1 : f ≤ m) (h2 : m < j + 1) => show letB5 s[m] = true by
              by_cases hmj : m = j
              · subst hmj; exact h
              · exact HRUN.out m hm h1 (by omega))
            have HNRr := Lib.hid (fun (h : letB5 s[j] = false) => NR.mk hfj hj (name_run hfj hj HRUN.out (fun _ => h)).1 (name_run hfj hj HRUN.out (fun _ => h)).2)
            have HLT := Lib.hid (letter05_any s[j] wo)
            obtain ⟨b, hb⟩ : ∃ b, s[j] = b := ⟨_, rfl⟩
            rw [hb] at HLT HRN HNRr
            obtain ⟨lb, hlb⟩ : ∃ l, letB5 b = l := ⟨_, rfl⟩
            rw [hlb] at HLT HRN HNRr
            clear hlb HRUN
            go_wp2_with fail
            refine HLT.out.mono ?_
            rintro e wj ⟨rfl, hwj⟩
            have hwj2 := hwj.symm
            clear hwj
            subst hwj2
            clear HLT
            cases lb
            · have HNR := Lib.hid (HNRr.out rfl)
              clear HRN HNRr
              clear hb hjs hji
              have hfl : (f : Int) ≤ (j : Int) := by omega
              have hjl : (j : Int) ≤ (s.size : Int) := by omega
              have hjm : (j : Int) ≤ 1000000 := by omega
              by_cases h0 : f = j
              · have HPN := Lib.hid (HP.out.stuck (HNR.out.none0 h0))
                have hx0 : (s.extract f j).size = 0 := by rw [ByteArray.size_extract]; omega
                have y1 := str_eq hx0
                clear h0 hx0
                go_wp2_with fail
                go_ret2
                exact ⟨HSR.out.below, .inr ⟨HPN.out, _, _, _, rfl⟩⟩
              have hfj : f < j := by omega
              have hx0 : (s.extract f j).size ≠ 0 := by rw [ByteArray.size_extract]; omega
              have y1 := str_ne hx0
              clear h0 hx0
              by_cases h1 : s.size ≤ j + 1
              · have HPN := Lib.hid (HP.out.stuck (HNR.out.none1 h1))
                have y2 : decide ((s.size : Int) ≤ (j : Int) + 1) = true := decide_eq_true (by omega)
                have y3 : (s.size : Int) ≤ (j : Int) + 1 := by omega
                clear h1
                go_wp2_with fail
                go_ret2
                exact ⟨HSR.out.below, .inr ⟨HPN.out, _, _, _, rfl⟩⟩
              have y2 : decide ((s.size : Int) ≤ (j : Int) + 1) = false := decide_eq_false (by omega)
              have y3 : ¬ (s.size : Int) ≤ (j : Int) + 1 := by omega
              have hj0 : j < s.size := by omega
              have hj1 : j + 1 < s.size := by omega
              have hj2 : (j : Int) + 1 < (s.size : Int) := by omega
              have hj3 : (j : Int) < (s.size : Int) := by omega
              have HN2 := Lib.hid (fun he => HP.out.stuck (HNR.out.none2 hj1 he))
              have HN3 := Lib.hid (fun he => HNR.out.some_ hfj hj1 he)
              obtain ⟨p, hp⟩ : ∃ b, s[j] = b := ⟨_, rfl⟩
              obtain ⟨r, hr⟩ : ∃ b, s[j + 1] = b := ⟨_, rfl⟩
              rw [hp, hr] at HN2 HN3
              clear h1
              by_cases h61 : p = 61
              · by_cases h34 : r = 34
                · have HN4 := Lib.hid (HN3.out ⟨h61, h34⟩)
                  subst h61 h34
                  have hv := valueR_any s (j + 2) (by omega) wo HS.out
                  unfold valV at hv
                  clear HN2 HN3
                  cases hu : unqL ((bs s).drop (j + 2)) with
                  | none =>
                    rw [hu] at hv HN4
                    simp only at hv
                    have HV := Lib.hid hv
                    have HPN := Lib.hid (HP.out.stuck HN4.out)
                    clear hu hv HN4
                    have e2 : ((j + 2 : Nat) : Int) = (j : Int) + 2 := by omega
                    rw [e2] at HV
                    clear e2
                    go_wp2_with fail
                    refine HV.out.mono ?_
                    rintro e w2 ⟨rfl, hb⟩
                    replace HSR := Lib.hid (HSR.out.later hb)
                    clear hb HV
                    go_wp2_with fail
                    go_ret2
                    exact ⟨HSR.out.below, .inr ⟨HPN.out, _, _, _, rfl⟩⟩
                  | some q =>
                    rw [hu] at hv HN4
                    simp only at hv
                    have HV := Lib.hid hv
                    obtain ⟨t, ht, hk2⟩ := unqL_some _ _ (Nat.le_refl _) _ _ hu
                    have hln := congrArg List.length ht
                    rw [List.length_drop, bs_length, List.length_append, List.length_cons] at hln
                    obtain ⟨nx, hnx⟩ : ∃ nx, j + 2 + q.2 = nx := ⟨_, rfl⟩
                    have HNX : Hid (j + 2 ≤ nx ∧ nx ≤ s.size) := Lib.hid (by omega)
                    rw [hnx] at HV
                    have HLS2 : Hid (LS s (acc ++ [⟨s.extract f j, str q.1⟩]) nx) := Lib.hid (.inr ⟨by omega, f, acc, _, rfl, HP.out, by rw [HN4.out, Option.map_some, hnx], by omega⟩)
                    have hnl : (nx : Int) ≤ 1000000 := by have := HNX.out; omega
                    clear hu hv HN4 ht hk2 hln hnx
                    have e2 : ((j + 2 : Nat) : Int) = (j : Int) + 2 := by omega
                    rw [e2] at HV
                    clear e2
                    obtain ⟨x, hx⟩ : ∃ x : Lab, x = ⟨s.extract f j, str q.1⟩ := ⟨_, rfl⟩
                    rw [← hx] at HLS2
                    have hx1 : s.extract f j = x.name := by rw [hx]
                    have hx2 : str q.1 = x.value := by rw [hx]
                    rw [hx1] at y1
                    rw [hx2] at HV
                    have HX1 := Lib.hid hx1
                    clear hx2 hx
                    obtain ⟨i0, hi, hz0, hz1, hz2⟩ := info_parts info_labS
                    go_wp2_with fail
                    refine HV.out.mono ?_
                    rintro e w2 ⟨rfl, hb⟩
                    replace HSR := Lib.hid (HSR.out.later hb)
                    clear hb HV
                    have hcs : x.cells.size = 2 := rfl
                    go_wp2_with (at_builtin; (refine wpList_elem rfl (.tmp 90) (.tmp 94) 46 66 i0 _ 2 32 Tryz.underlying46 hi hz0 hz1 hz2 rfl (by decide) rfl HSR.out x.cells rfl (lab_one _) rfl rfl (by have := HNK.out; have := HNX.out; have := HS.out; have := HKF.out; omega) (by decide) ?_))
                    intro A3 n3 c3 l3 w3 HE3 hS3 hG3
                    have HSR3 : Hid (SR w 66 2 A3 n3 c3 ((acc ++ [x]).map Lab.cells) w3) := Lib.hid (by rw [List.map_append]; rw [HE3.out] at hS3; exact hS3)
                    have HNK3 : Hid (n3 ≤ nx) := Lib.hid (by
                      have h1 := HSR.out.len
                      have h2 := HSR3.out.len
                      have h3 := HNK.out
                      have h4 := HNX.out
                      have h5 := HKF.out
                      rw [List.length_map] at h1
                      rw [List.length_map, List.length_append] at h2
                      simp at h2
                      omega)
                    clear hS3 hG3 hcs hx1
                    go_wp2_with fail
                    go_roundw
                    case rel => exact ⟨nx, A3, n3, c3, acc ++ [x], HNX.out.2, rfl, rfl, HSR3, HLS2, HNK3⟩
                    case measure => simp [intOf]; have := HNX.out; have := HKF.out; omega
                · have e1 : ((r.toNat : Int) == 34) = false := byte_ne h34
                  have e2 : ((r.toNat : Int) != 34) = true := by unfold bne; rw [e1]; rfl
                  have HPN := Lib.hid (HN2.out (fun h => h34 h.2))
                  subst h61
                  clear HN2 HN3 h34 e1
                  go_wp2_with fail
                  go_ret2
                  exact ⟨HSR.out.below, .inr ⟨HPN.out, _, _, _, rfl⟩⟩
              · have e1 : ((p.toNat : Int) == 61) = false := byte_ne h61
                have e2 : ((p.toNat : Int) != 61) = true := by unfold bne; rw [e1]; rfl
                have HPN := Lib.hid (HN2.out (fun h => h61 h.1))
                clear HN2 HN3 h61 e1
                go_wp2_with fail
                go_ret2
                exact ⟨HSR.out.below, .inr ⟨HPN.out, _, _, _, rfl⟩⟩
            · have HRUN2 := Lib.hid (HRN.out rfl)
              clear HRN HNRr
              go_wp2_with fail
              go_roundw
              case rel => exact ⟨j + 1, by omega, hjs, by go_num, (by first | rfl | trivial), HRUN2⟩
              case measure => simp [intOf]; omega
          · have hji : ¬ (j : Int) < (s.size : Int) := by omega
            have HNR := Lib.hid (NR.mk hfj hj (name_run hfj hj HRUN.out (fun h => absurd h hjs)).1 (name_run hfj hj HRUN.out (fun h => absurd h hjs)).2)
            clear HRUN
            have hfl : (f : Int) ≤ (j : Int) := by omega
            have hjl : (j : Int) ≤ (s.size : Int) := by omega
            have hjm : (j : Int) ≤ 1000000 := by omega
            by_cases h0 : f = j
            · have HPN := Lib.hid (HP.out.stuck (HNR.out.none0 h0))
              have hx0 : (s.extract f j).size = 0 := by rw [ByteArray.size_extract]; omega
              have y1 := str_eq hx0
              clear h0 hx0
              go_wp2_with fail
              go_ret2
              exact ⟨HSR.out.below, .inr ⟨HPN.out, _, _, _, rfl⟩⟩
            have hfj : f < j := by omega
            have hx0 : (s.extract f j).size ≠ 0 := by rw [ByteArray.size_extract]; omega
            have y1 := str_ne hx0
            clear h0 hx0
            by_cases h1 : s.size ≤ j + 1
            · have HPN := Lib.hid (HP.out.stuck (HNR.out.none1 h1))
              have y2 : decide ((s.size : Int) ≤ (j : Int) + 1) = true := decide_eq_true (by omega)
              have y3 : (s.size : Int) ≤ (j : Int) + 1 := by omega
              clear h1
              go_wp2_with fail
              go_ret2
              exact ⟨HSR.out.below, .inr ⟨HPN.out, _, _, _, rfl⟩⟩
            exact absurd (show s.size ≤ j + 1 by omega) h1
      have hk0i : ((k : Int) == 0) = false := beq_eq_false_iff_ne.2 (by omega)
      have hkp : 0 < k := by omega
      have HDN := Lib.hid (fun h => HL.out.done hkp hk h)
      by_cases hks : k < s.size
      · have hksi : (k : Int) < (s.size : Int) := by omega
        obtain ⟨b, hb⟩ : ∃ b, s[k] = b := ⟨_, rfl⟩
        by_cases h44 : b = 44
        · have HP := Lib.hid (HL.out.enter HNE.out hks (fun h => absurd h hk0) (fun _ => by rw [hb]; exact h44))
          subst h44
          clear HB0 hb0 hz0 hk0 HL HDN
          go_upto_region 8 with fail
          clear hk0i hksi hb
          obtain ⟨f, hf⟩ : ∃ f, k + 1 = f := ⟨_, rfl⟩
          rw [hf] at HP
          have HKF : Hid (k < f ∧ f ≤ s.size) := Lib.hid (by omega)
          have hfi : (k : Int) + 1 = (f : Int) := by omega
          obtain ⟨wo, hwo⟩ : ∃ wo, wo = wr := ⟨_, rfl⟩
          rw [← hwo] at HSR ⊢
          clear hwo hf
          go_wp2_with fail
          go_loopw [5] (fun i wi => ∃ j : Nat, f ≤ j ∧ j ≤ s.size ∧ i = .int .i64 j ∧ wi = wo ∧ Hid (∀ m (h : m < s.size), f ≤ m → m < j → letB5 s[m] = true)) (fun i _ => s.size - (intOf i).toNat)
          case atStart => exact ⟨f, Nat.le_refl _, HKF.out.2, rfl, rfl, Lib.hid (fun m _ h1 h2 => by omega)⟩
          case round =>
            obtain ⟨j, hfj, hj, rfl, hwi, HRUN⟩ := hrel
            have hwi2 := hwi.symm
            clear hwi
            subst hwi2
            have hjm : (j : Int) ≤ 1000000 := by omega
            by_cases hjs : j < s.size
            · have hji : (j : Int) < (s.size : Int) := by omega
              have HRN := Lib.hid (fun (h : letB5 s[j] = true) (m : Nat) (hm : m < s.size) (h1 : f ≤ m) (h2 : m < j + 1) => show letB5 s[m] = true by
                by_cases hmj : m = j
                · subst hmj; exact h
                · exact HRUN.out m hm h1 (by omega))
              have HNRr := Lib.hid (fun (h : letB5 s[j] = false) => NR.mk hfj hj (name_run hfj hj HRUN.out (fun _ => h)).1 (name_run hfj hj HRUN.out (fun _ => h)).2)
              have HLT := Lib.hid (letter05_any s[j] wo)
              obtain ⟨b, hb⟩ : ∃ b, s[j] = b := ⟨_, rfl⟩
              rw [hb] at HLT HRN HNRr
              obtain ⟨lb, hlb⟩ : ∃ l, letB5 b = l := ⟨_, rfl⟩
              rw [hlb] at HLT HRN HNRr
              clear hlb HRUN
              go_wp2_with fail
              refine HLT.out.mono ?_
              rintro e wj ⟨rfl, hwj⟩
              have hwj2 := hwj.symm
              clear hwj
              subst hwj2
              clear HLT
              cases lb
              · have HNR := Lib.hid (HNRr.out rfl)
                clear HRN HNRr
                clear hb hjs hji
                have hfl : (f : Int) ≤ (j : Int) := by omega
                have hjl : (j : Int) ≤ (s.size : Int) := by omega
                have hjm : (j : Int) ≤ 1000000 := by omega
                by_cases h0 : f = j
                · have HPN := Lib.hid (HP.out.stuck (HNR.out.none0 h0))
                  have hx0 : (s.extract f j).size = 0 := by rw [ByteArray.size_extract]; omega
                  have y1 := str_eq hx0
                  clear h0 hx0
                  go_wp2_with fail
                  go_ret2
                  exact ⟨HSR.out.below, .inr ⟨HPN.out, _, _, _, rfl⟩⟩
                have hfj : f < j := by omega
                have hx0 : (s.extract f j).size ≠ 0 := by rw [ByteArray.size_extract]; omega
                have y1 := str_ne hx0
                clear h0 hx0
                by_cases h1 : s.size ≤ j + 1
                · have HPN := Lib.hid (HP.out.stuck (HNR.out.none1 h1))
                  have y2 : decide ((s.size : Int) ≤ (j : Int) + 1) = true := decide_eq_true (by omega)
                  have y3 : (s.size : Int) ≤ (j : Int) + 1 := by omega
                  clear h1
                  go_wp2_with fail
                  go_ret2
                  exact ⟨HSR.out.below, .inr ⟨HPN.out, _, _, _, rfl⟩⟩
                have y2 : decide ((s.size : Int) ≤ (j : Int) + 1) = false := decide_eq_false (by omega)
                have y3 : ¬ (s.size : Int) ≤ (j : Int) + 1 := by omega
                have hj0 : j < s.size := by omega
                have hj1 : j + 1 < s.size := by omega
                have hj2 : (j : Int) + 1 < (s.size : Int) := by omega
                have hj3 : (j : Int) < (s.size : Int) := by omega
                have HN2 := Lib.hid (fun he => HP.out.stuck (HNR.out.none2 hj1 he))
                have HN3 := Lib.hid (fun he => HNR.out.some_ hfj hj1 he)
                obtain ⟨p, hp⟩ : ∃ b, s[j] = b := ⟨_, rfl⟩
                obtain ⟨r, hr⟩ : ∃ b, s[j + 1] = b := ⟨_, rfl⟩
                rw [hp, hr] at HN2 HN3
                clear h1
                by_cases h61 : p = 61
                · by_cases h34 : r = 34
                  · have HN4 := Lib.hid (HN3.out ⟨h61, h34⟩)
                    subst h61 h34
                    have hv := valueR_any s (j + 2) (by omega) wo HS.out
                    unfold valV at hv
                    clear HN2 HN3
                    cases hu : unqL ((bs s).drop (j + 2)) with
                    | none =>
                      rw [hu] at hv HN4
                      simp only at hv
                      have HV := Lib.hid hv
                      have HPN := Lib.hid (HP.out.stuck HN4.out)
                      clear hu hv HN4
                      have e2 : ((j + 2 : Nat) : Int) = (j : Int) + 2 := by omega
                      rw [e2] at HV
                      clear e2
                      go_wp2_with fail
                      refine HV.out.mono ?_
                      rintro e w2 ⟨rfl, hb⟩
                      replace HSR := Lib.hid (HSR.out.later hb)
                      clear hb HV
                      go_wp2_with fail
                      go_ret2
                      exact ⟨HSR.out.below, .inr ⟨HPN.out, _, _, _, rfl⟩⟩
                    | some q =>
                      rw [hu] at hv HN4
                      simp only at hv
                      have HV := Lib.hid hv
                      obtain ⟨t, ht, hk2⟩ := unqL_some _ _ (Nat.le_refl _) _ _ hu
                      have hln := congrArg List.length ht
                      rw [List.length_drop, bs_length, List.length_append, List.length_cons] at hln
                      obtain ⟨nx, hnx⟩ : ∃ nx, j + 2 + q.2 = nx := ⟨_, rfl⟩
                      have HNX : Hid (j + 2 ≤ nx ∧ nx ≤ s.size) := Lib.hid (by omega)
                      rw [hnx] at HV
                      have HLS2 : Hid (LS s (acc ++ [⟨s.extract f j, str q.1⟩]) nx) := Lib.hid (.inr ⟨by omega, f, acc, _, rfl, HP.out, by rw [HN4.out, Option.map_some, hnx], by omega⟩)
                      have hnl : (nx : Int) ≤ 1000000 := by have := HNX.out; omega
                      clear hu hv HN4 ht hk2 hln hnx
                      have e2 : ((j + 2 : Nat) : Int) = (j : Int) + 2 := by omega
                      rw [e2] at HV
                      clear e2
                      obtain ⟨x, hx⟩ : ∃ x : Lab, x = ⟨s.extract f j, str q.1⟩ := ⟨_, rfl⟩
                      rw [← hx] at HLS2
                      have hx1 : s.extract f j = x.name := by rw [hx]
                      have hx2 : str q.1 = x.value := by rw [hx]
                      rw [hx1] at y1
                      rw [hx2] at HV
                      have HX1 := Lib.hid hx1
                      clear hx2 hx
                      obtain ⟨i0, hi, hz0, hz1, hz2⟩ := info_parts info_labS
                      go_wp2_with fail
                      refine HV.out.mono ?_
                      rintro e w2 ⟨rfl, hb⟩
                      replace HSR := Lib.hid (HSR.out.later hb)
                      clear hb HV
                      have hcs : x.cells.size = 2 := rfl
                      go_wp2_with (at_builtin; (refine wpList_elem rfl (.tmp 90) (.tmp 94) 46 66 i0 _ 2 32 Tryz.underlying46 hi hz0 hz1 hz2 rfl (by decide) rfl HSR.out x.cells rfl (lab_one _) rfl rfl (by have := HNK.out; have := HNX.out; have := HS.out; have := HKF.out; omega) (by decide) ?_))
                      intro A3 n3 c3 l3 w3 HE3 hS3 hG3
                      have HSR3 : Hid (SR w 66 2 A3 n3 c3 ((acc ++ [x]).map Lab.cells) w3) := Lib.hid (by rw [List.map_append]; rw [HE3.out] at hS3; exact hS3)
                      have HNK3 : Hid (n3 ≤ nx) := Lib.hid (by
                        have h1 := HSR.out.len
                        have h2 := HSR3.out.len
                        have h3 := HNK.out
                        have h4 := HNX.out
                        have h5 := HKF.out
                        rw [List.length_map] at h1
                        rw [List.length_map, List.length_append] at h2
                        simp at h2
                        omega)
                      clear hS3 hG3 hcs hx1
                      go_wp2_with fail
                      go_roundw
                      case rel => exact ⟨nx, A3, n3, c3, acc ++ [x], HNX.out.2, rfl, rfl, HSR3, HLS2, HNK3⟩
                      case measure => simp [intOf]; have := HNX.out; have := HKF.out; omega
                  · have e1 : ((r.toNat : Int) == 34) = false := byte_ne h34
                    have e2 : ((r.toNat : Int) != 34) = true := by unfold bne; rw [e1]; rfl
                    have HPN := Lib.hid (HN2.out (fun h => h34 h.2))
                    subst h61
                    clear HN2 HN3 h34 e1
                    go_wp2_with fail
                    go_ret2
                    exact ⟨HSR.out.below, .inr ⟨HPN.out, _, _, _, rfl⟩⟩
                · have e1 : ((p.toNat : Int) == 61) = false := byte_ne h61
                  have e2 : ((p.toNat : Int) != 61) = true := by unfold bne; rw [e1]; rfl
                  have HPN := Lib.hid (HN2.out (fun h => h61 h.1))
                  clear HN2 HN3 h61 e1
                  go_wp2_with fail
                  go_ret2
                  exact ⟨HSR.out.below, .inr ⟨HPN.out, _, _, _, rfl⟩⟩
              · have HRUN2 := Lib.hid (HRN.out rfl)
                clear HRN HNRr
                go_wp2_with fail
                go_roundw
                case rel => exact ⟨j + 1, by omega, hjs, by go_num, (by first | rfl | trivial), HRUN2⟩
                case measure => simp [intOf]; omega
            · have hji : ¬ (j : Int) < (s.size : Int) := by omega
              have HNR := Lib.hid (NR.mk hfj hj (name_run hfj hj HRUN.out (fun h => absurd h hjs)).1 (name_run hfj hj HRUN.out (fun h => absurd h hjs)).2)
              clear HRUN
              have hfl : (f : Int) ≤ (j : Int) := by omega
              have hjl : (j : Int) ≤ (s.size : Int) := by omega
              have hjm : (j : Int) ≤ 1000000 := by omega
              by_cases h0 : f = j
              · have HPN := Lib.hid (HP.out.stuck (HNR.out.none0 h0))
                have hx0 : (s.extract f j).size = 0 := by rw [ByteArray.size_extract]; omega
                have y1 := str_eq hx0
                clear h0 hx0
                go_wp2_with fail
                go_ret2
                exact ⟨HSR.out.below, .inr ⟨HPN.out, _, _, _, rfl⟩⟩
              have hfj : f < j := by omega
              have hx0 : (s.extract f j).size ≠ 0 := by rw [ByteArray.size_extract]; omega
              have y1 := str_ne hx0
              clear h0 hx0
              by_cases h1 : s.size ≤ j + 1
              · have HPN := Lib.hid (HP.out.stuck (HNR.out.none1 h1))
                have y2 : decide ((s.size : Int) ≤ (j : Int) + 1) = true := decide_eq_true (by omega)
                have y3 : (s.size : Int) ≤ (j : Int) + 1 := by omega
                clear h1
                go_wp2_with fail
                go_ret2
                exact ⟨HSR.out.below, .inr ⟨HPN.out, _, _, _, rfl⟩⟩
              exact absurd (show s.size ≤ j + 1 by omega) h1
        · have e1 : ((b.toNat : Int) == 44) = false := byte_ne h44
          have HD2 := HDN.out (fun _ => by rw [hb]; exact h44)
          clear HB0 HDN HL hb0 hz0 hk0
          by_cases hend : k + 1 = s.size
          · have e3 : ((k : Int) == (s.size : Int) - 1) = true := beq_iff_eq.2 (by omega)
            by_cases h125 : b = 125
            · have HPY : Hid (parL (bs s) = some acc) := Lib.hid (by rw [HD2, if_pos ⟨hend, fun _ => by rw [hb]; exact h125⟩])
              subst h125
              clear h44 HD2 hend
              go_upto_region 20 with fail
              go_quiet (fail)
              go_wp2_with fail
              go_ret2
              exact ⟨bN HSR.out.below _, .inl ⟨acc, A, c, HPY.out, by rw [show acc.length = n by rw [← HSR.out.len, List.length_map]]; rfl, by rw [show acc.length = n by rw [← HSR.out.len, List.length_map]]; exact HSR.out.cap, ⟨(HSR.out.drewN _).rd, (HSR.out.drewN _).ty⟩, HSR.out.le⟩⟩
            · have HPN : Hid (parL (bs s) = none) := Lib.hid (by rw [HD2, if_neg]; rintro ⟨_, h⟩; exact h125 (by rw [← hb]; exact h hks))
              have e4 : ((b.toNat : Int) == 125) = false := byte_ne h125
              clear h44 HD2 hend h125
              go_upto_region 20 with fail
              go_quiet (fail)
              go_wp2_with fail
              go_ret2
              exact ⟨bN HSR.out.below _, .inr ⟨HPN.out, _, _, _, rfl⟩⟩
          · have e3 : ((k : Int) == (s.size : Int) - 1) = false := beq_eq_false_iff_ne.2 (by omega)
            have HPN : Hid (parL (bs s) = none) := Lib.hid (by rw [HD2, if_neg]; rintro ⟨h, _⟩; exact hend h)
            clear h44 HD2 hend
            go_upto_region 20 with fail
            go_quiet (fail)
            go_wp2_with fail
            go_ret2
            exact ⟨bN HSR.out.below _, .inr ⟨HPN.out, _, _, _, rfl⟩⟩
      · have hksi : ¬ (k : Int) < (s.size : Int) := by omega
        have HPN : Hid (parL (bs s) = none) := Lib.hid (by rw [HDN.out (fun h => absurd h hks), if_neg]; rintro ⟨h, _⟩; omega)
        have e3 : ((k : Int) == (s.size : Int) - 1) = false := beq_eq_false_iff_ne.2 (by omega)
        clear HB0 HDN HL hb0 hz0 hk0
        go_upto_region 20 with fail
        go_quiet (fail)
        go_wp2_with fail
        go_ret2
        exact ⟨bN HSR.out.below _, .inr ⟨HPN.out, _, _, _, rfl⟩⟩
  · have e1 : ((b0.toNat : Int) == 123) = false := byte_ne h123
    have e2 : ((b0.toNat : Int) != 123) = true := by unfold bne; rw [e1]; rfl
    have HP := Lib.hid (parL_no0 he (.inr ⟨hz0, by rw [hb0]; exact h123⟩))
    clear he hz h123 e1
    go_wp2_with fail
    go_ret2
    exact ⟨HSR.out.below, .inr ⟨HP.out, _, _, _, rfl⟩⟩
/-- What the reference's Parse answers. -/
def PRPost (s : ByteArray) (w : World) (e : Ending) (w' : World) : Prop := Below w.heap.size w w' ∧
  (((parE s).2 = 0 ∧ ∃ A c, e = .returned (.tuple #[.slice A (parE s).1.length c, .int .i64 0]) ∧ (parE s).1.length ≤ c ∧ LabT w' A (parE s).1 ∧ ∀ k, A.map (·.block) = some k → w.heap.size ≤ k) ∨
   ((parE s).2 ≠ 0 ∧ ∃ A n c er, er ≠ 0 ∧ e = .returned (.tuple #[.slice A n c, .int .i64 er])))
theorem parL_names {s : ByteArray} {ls : List Lab} (h : parL (bs s) = some ls) (hs : s.size ≤ 1000000) : ∀ x ∈ ls, x.name.size ≤ 140737488351232 := fun x hx => by
  have h1 := (parL_some _ _ h).1
  have h2 := congrArg List.length h1
  rw [bs_length] at h2
  have h3 : ∀ l : List Lab, ∀ y ∈ l, y.name.size ≤ (fmtIn l).length := fun l => by
    have hm : ∀ r : List Lab, ∀ y ∈ r, y.name.size ≤ (fmtMore r).length := fun r => by
      induction r with
      | nil => intro y hy; cases hy
      | cons z r ih =>
        intro y hy
        unfold fmtMore
        rw [List.length_cons, List.length_append]
        rcases List.mem_cons.1 hy with rfl | hy
        · unfold fmtX
          simp only [List.length_append, bs_length]
          omega
        · have := ih y hy
          omega
    intro y hy
    cases l with
    | nil => cases hy
    | cons z r =>
      unfold fmtIn
      rw [List.length_append]
      rcases List.mem_cons.1 hy with rfl | hy
      · unfold fmtX
        simp only [List.length_append, bs_length]
        omega
      · have := hm r y hy
        omega
  have h4 := h3 ls x hx
  unfold fmtL at h2
  rw [List.length_cons, List.length_append] at h2
  omega
set_option maxRecDepth 100000 in
set_option maxHeartbeats 1000000 in
theorem parseR_any (s : ByteArray) (w : World) (hs : s.size ≤ 1000000) : Calls Tryz.prog 99 #[.string s] w (PRPost s w) := by
  have HP := Lib.hid (listR_any s w hs)
  have HNM := Lib.hid (fun ls h => parL_names (s := s) (ls := ls) h hs)
  clear hs
  go_enter Tryz.func99, Tryz.ntmps99
  go_wp2_with fail
  refine HP.out.mono ?_
  rintro e w1 ⟨hb, ⟨ls, A, c, hp, rfl, hc, hl, ha⟩ | ⟨hp, A, n, c, rfl⟩⟩
  · have HB := Lib.hid hb
    have HA := Lib.hid ha
    have HL := Lib.hid hl
    have HC := Lib.hid hc
    have HPL := Lib.hid hp
    clear hb hl hc hp ha
    go_wp2_with fail
    refine (check05_any A c ls _ w1 HL.out.rd HC.out (HNM.out ls HPL.out)).mono ?_
    rintro e w2 ⟨rfl, hd⟩
    have HB2 := Lib.hid (HB.out.trans (hd.below.mono HB.out.size))
    have HL2 := Lib.hid (HL.out.kt (KT.below hd.below))
    clear hd
    by_cases h0 : chkL ls = 0
    · have HE : Hid (parE s = (ls, 0)) := Lib.hid (by unfold parE; rw [HPL.out]; simp only [if_pos h0])
      rw [h0]
      go_wp2_with fail
      go_ret2
      refine ⟨HB2.out, .inl ⟨by rw [HE.out], ?_⟩⟩
      rw [HE.out]
      exact ⟨A, c, rfl, HC.out, HL2.out, HA.out⟩
    · have HE : Hid (parE s = ([], chkL ls)) := Lib.hid (by unfold parE; rw [HPL.out]; simp only [if_neg h0])
      have d1 : (chkL ls != 0) = true := bne_iff_ne.2 h0
      have H0 := Lib.hid h0
      obtain ⟨er, her⟩ : ∃ er, chkL ls = er := ⟨_, rfl⟩
      rw [her] at d1 H0 HE
      rw [her]
      clear h0 her
      go_wp2_with fail
      go_ret2
      exact ⟨HB2.out.alloc HB2.out.size _, .inr ⟨by rw [HE.out]; exact H0.out, _, _, _, er, H0.out, rfl⟩⟩
  · have HB := Lib.hid hb
    have HE : Hid (parE s = ([], 3)) := Lib.hid (by unfold parE; rw [hp])
    clear hb hp
    go_wp2_with fail
    go_ret2
    exact ⟨HB.out.alloc HB.out.size _, .inr ⟨by rw [HE.out]; decide, _, _, _, 3, by decide, rfl⟩⟩
end Go.Proofs.YtoojpfcnekpboaaGreat
