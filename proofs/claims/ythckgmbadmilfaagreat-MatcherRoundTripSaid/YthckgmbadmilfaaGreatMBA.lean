/- Walks: what a set of matchers tells (the program's first, contradicts, excluded, needed). Walks: slices.ContainsFunc over matchers, with a function value that is bound or captures. -/
import Derived.Test.YthckgmbadmilfaaGreatMAI
import Derived.Test.YthckgmbadmilfaaGreatMAZ
namespace Go.Proofs.YthckgmbadmilfaaGreat
open Go.RowKit

theorem eql_grp (ms : List Mt) (n : ByteArray) : eqlM ms n = (grp ms n).find? fun x => decide (x.kind = 1) := by
  unfold eqlM grp
  rw [List.find?_filter]
  congr 1
  funext x
  rcases decide (x.name = n) <;> rcases decide (x.kind = 1) <;> rfl
/-- What first tells. -/
def firstV (ms : List Mt) (n : ByteArray) : Value := match eqlM ms n with
  | some q => .tuple #[.agg #[.int .i64 q.kind, .string q.name, .string q.value], .bool true]
  | none => .tuple #[.agg #[.int .i64 0, .string ⟨#[]⟩, .string ⟨#[]⟩], .bool false]
theorem find_hit {gs : List Mt} {k : Nat} (h : k < gs.length) (h1 : ∀ x ∈ gs.take k, ¬ x.kind = 1) (h2 : gs[k].kind = 1) : (gs.find? fun x => decide (x.kind = 1)) = some gs[k] := by
  have e : gs = gs.take k ++ gs[k] :: gs.drop (k + 1) := by rw [← List.drop_eq_getElem_cons h, List.take_append_drop]
  have h0 : ((gs.take k).find? fun x => decide (x.kind = 1)) = none := by
    rw [List.find?_eq_none]
    intro x hx
    simpa using h1 x hx
  have h3 : ((gs.take k ++ gs[k] :: gs.drop (k + 1)).find? fun x => decide (x.kind = 1)) = some gs[k] := by
    rw [List.find?_append, h0, List.find?_cons, decide_eq_true h2]
    rfl
  rw [← e] at h3
  exact h3
theorem find_miss {gs : List Mt} (h1 : ∀ x ∈ gs, ¬ x.kind = 1) : (gs.find? fun x => decide (x.kind = 1)) = none := by
  rw [List.find?_eq_none]
  intro x hx
  simpa using h1 x hx
set_option maxRecDepth 100000 in
set_option maxHeartbeats 2000000 in
theorem first_any (b : Nat) (ms : List Mt) (name : ByteArray) (w : World) (hs : SetIn w.heap.size w b ms) (hn : name.size ≤ 100000) (hml : ms.length ≤ 1000) :
    Calls Tryz.prog 75 #[.agg #[.map (some b)], .string name, .int .i64 1] w fun e w' => e = .returned (firstV ms name) ∧ Below w.heap.size w w' := by
  have z1 : (w.alloc (.cells #[.map (some b)] 65)).heap.size = w.heap.size + 1 := by simp
  have a1 := At.new (w.alloc (.cells #[.map (some b)] 65)) #[.int .i64 0, .string ⟨#[]⟩, .string ⟨#[]⟩] 39
  rw [z1] at a1
  have HZ := Lib.hid a1
  have HB0 : Hid (Below w.heap.size w ((w.alloc (.cells #[.map (some b)] 65)).alloc (.cells #[.int .i64 0, .string ⟨#[]⟩, .string ⟨#[]⟩] 39))) := Lib.hid (((Below.refl _ _).alloc (Nat.le_refl _) _).alloc (by simp) _)
  have HS := Lib.hid (((At.new w #[.map (some b)] 65)).alloc (.cells #[.int .i64 0, .string ⟨#[]⟩, .string ⟨#[]⟩] 39))
  obtain ⟨A, c, hrun, hmt⟩ := (hs.below HB0.out).look name (by unfold maxLen; omega)
  have HRUN := Lib.hid hrun
  have HMT := Lib.hid hmt
  have HE := Lib.hid (eql_grp ms name)
  clear a1 z1 hs hrun hmt
  go_enter Tryz.func75, Tryz.ntmps75
  go_upto_region 1 with fail
  generalize (w.alloc (.cells #[.map (some b)] 65)).alloc (.cells #[.int .i64 0, .string ⟨#[]⟩, .string ⟨#[]⟩] 39) = w0 at *
  have hgl := grp_le ms name
  have hgl2 : (grp ms name).length ≤ 1000 := by omega
  clear hgl
  generalize grp ms name = gs at *
  have hrun := HRUN.out
  have d0 := HS.out.cell 0
  clear HRUN
  go_wp2_with fail
  go_loopw [15] (fun i wr => ∃ k : Nat, k ≤ gs.length ∧ i = .int .i64 k ∧ Hid (∀ x ∈ gs.take k, ¬ x.kind = 1) ∧ Hid (Below w0.heap.size w0 wr)) (fun i _ => gs.length - (intOf i).toNat)
  case atStart => exact ⟨0, Nat.zero_le _, rfl, Lib.hid (fun x hx => by simp at hx), Lib.hid (Below.refl _ _)⟩
  case round =>
    obtain ⟨k, hk, rfl, HN, HB⟩ := hrel
    have HBB := Lib.hid (HB0.out.trans (HB.out.mono HB0.out.size))
    by_cases hlt : k < gs.length
    · obtain ⟨g, o, rfl, hg, c0, c1, c2⟩ := ((HMT.out.mono HB0.out.size).below HB.out).at_ k hlt
      have hg : g < wr.heap.size := Nat.lt_of_lt_of_le hg HB.out.size
      have HHIT := Lib.hid (find_hit hlt HN.out)
      have HTK : Hid (gs.take (k + 1) = gs.take k ++ [gs[k]]) := Lib.hid (List.take_succ_eq_append_getElem hlt)
      obtain ⟨x, hx⟩ : ∃ x, gs[k] = x := ⟨_, rfl⟩
      rw [hx] at HHIT HTK c0 c1 c2
      clear hx
      have HX := Lib.hid (At.new wr #[.int .i64 x.kind, .string x.name, .string x.value] 39)
      have HW : Hid (Below w.heap.size w (wr.alloc (.cells #[.int .i64 x.kind, .string x.name, .string x.value] 39))) := Lib.hid (HBB.out.alloc HBB.out.size _)
      have HZ3 := Lib.hid ((HZ.out.below HB.out).alloc (.cells #[.int .i64 x.kind, .string x.name, .string x.value] 39))
      have HW2 : Hid (Below w0.heap.size w0 (wr.alloc (.cells #[.int .i64 x.kind, .string x.name, .string x.value] 39))) := Lib.hid (HB.out.alloc HB.out.size _)
      by_cases h1 : x.kind = 1
      · have HV : Hid (firstV ms name = .tuple #[.agg #[.int .i64 x.kind, .string x.name, .string x.value], .bool true]) := Lib.hid (by unfold firstV; rw [HE.out, HHIT.out h1])
        have h1b : (x.kind == 1) = true := by rw [h1]; rfl
        clear HHIT h1
        go_upto_region 4 with fail
        generalize wr.alloc (.cells #[.int .i64 x.kind, .string x.name, .string x.value] 39) = w2 at *
        generalize wr.heap.size = Bx at *
        have q0 := HX.out.cell 0
        have q1 := HX.out.cell 1
        have q2 := HX.out.cell 2
        have r0 := HZ3.out.cell 0
        have r1 := HZ3.out.cell 1
        have r2 := HZ3.out.cell 2
        have f0 := HZ3.out.free 0
        have f1 := HZ3.out.free 1
        have f2 := HZ3.out.free 2
        go_wp2_with fail
        have HB2 := below_set3 (x' := .int .i64 x.kind) (y' := .string x.name) (z' := .string x.value) HW.out (show w.heap.size ≤ w.heap.size + 1 by omega)
        refine bodyPost_ret (results_row_tmpM rfl _ _ (w.heap.size + 1) 39 _ _ rfl HZ3.out.set3 Tryz.underlying39 rfl size_mt) rfl ⟨?_, HB2⟩
        rw [HV.out]
        rfl
      · have h1b : (x.kind == 1) = false := beq_eq_false_iff_ne.2 h1
        have HN2 : Hid (∀ y ∈ gs.take (k + 1), ¬ y.kind = 1) := Lib.hid fun y hy => by
          rw [HTK.out] at hy
          rcases List.mem_append.1 hy with hy | hy
          · exact HN.out y hy
          · rw [List.mem_singleton.1 hy]; exact h1
        clear HHIT h1
        go_upto_region 4 with fail
        generalize wr.alloc (.cells #[.int .i64 x.kind, .string x.name, .string x.value] 39) = w2 at *
        generalize wr.heap.size = Bx at *
        have q0 := HX.out.cell 0
        go_wp2_with fail
        go_roundw
        case rel => exact ⟨k + 1, by omega, by go_num, HN2, HW2⟩
        case measure => simp [intOf]; omega
    · have HV : Hid (firstV ms name = .tuple #[.agg #[.int .i64 0, .string ⟨#[]⟩, .string ⟨#[]⟩], .bool false]) := Lib.hid (by
        unfold firstV
        have hN := HN.out
        rw [List.take_of_length_le (by omega)] at hN
        rw [HE.out, find_miss hN])
      have HZ3 := Lib.hid (HZ.out.below HB.out)
      have r0 := HZ3.out.cell 0
      have r1 := HZ3.out.cell 1
      have r2 := HZ3.out.cell 2
      have f0 := HZ3.out.free 0
      have f1 := HZ3.out.free 1
      have f2 := HZ3.out.free 2
      go_wp2_with fail
      have HB2 := below_set3 (x' := .int .i64 0) (y' := .string ⟨#[]⟩) (z' := .string ⟨#[]⟩) HBB.out (show w.heap.size ≤ w.heap.size + 1 by omega)
      refine bodyPost_ret (results_row_tmpM rfl _ _ (w.heap.size + 1) 39 _ _ rfl HZ3.out.set3 Tryz.underlying39 rfl size_mt) rfl ⟨?_, HB2⟩
      rw [HV.out]
      rfl

/-! ### Closures -/
/-- What a closure of contradicts tells: whether the expressions exclude each other. -/
def clC (m y : Mt) : Bool := decide (y.kind = 3) && apartM m.value y.value
def clX (m y : Mt) : Bool := decide (y.kind = 3) && exclM y m
set_option maxRecDepth 100000 in
set_option maxHeartbeats 2000000 in
theorem contraCl_any (m y : Mt) (Bm : Nat) (w : World) (hm : At w Bm #[.int .i64 m.kind, .string m.name, .string m.value] 39) :
    Calls Tryz.prog 76 #[.agg #[.int .i64 y.kind, .string y.name, .string y.value], .pointer (some ⟨Bm, 0, none⟩)] w fun e w' => e = .returned (.bool (clC m y)) ∧ Below w.heap.size w w' := by
  have HY := Lib.hid (At.new w #[.int .i64 y.kind, .string y.name, .string y.value] 39)
  have HM := Lib.hid (hm.alloc (.cells #[.int .i64 y.kind, .string y.name, .string y.value] 39))
  have HB0 : Hid (Below w.heap.size w (w.alloc (.cells #[.int .i64 y.kind, .string y.name, .string y.value] 39))) := Lib.hid ((Below.refl _ _).alloc (Nat.le_refl _) _)
  clear hm
  go_enter Tryz.func76, Tryz.ntmps76
  go_upto_region 1 with fail
  generalize w.alloc (.cells #[.int .i64 y.kind, .string y.name, .string y.value] 39) = w0 at *
  have c0 := HY.out.cell 0
  have c2 := HY.out.cell 2
  have d2 := HM.out.cell 2
  by_cases h3 : y.kind = 3
  · have HR : Hid (clC m y = apartM m.value y.value) := Lib.hid (by unfold clC; rw [decide_eq_true h3]; rfl)
    have h3b : (y.kind == 3) = true := by rw [h3]; rfl
    have HCO := Lib.hid (compat_any m.value y.value w0)
    clear h3
    generalize apartM m.value y.value = r at *
    go_wp2_with fail
    refine HCO.out.mono ?_
    rintro e w1 ⟨rfl, hb⟩
    have HB1 := Lib.hid (HB0.out.trans (hb.mono HB0.out.size))
    clear hb HCO
    cases r
    all_goals
      go_wp2_with fail
      go_ret
      exact ⟨ret_bool HR.out.symm, HB1.out⟩
  · have HR : Hid (clC m y = false) := Lib.hid (by unfold clC; rw [decide_eq_false h3]; rfl)
    have h3b : (y.kind == 3) = false := beq_eq_false_iff_ne.2 h3
    clear h3
    go_wp2_with fail
    go_ret
    exact ⟨ret_bool HR.out.symm, HB0.out⟩
set_option maxRecDepth 100000 in
set_option maxHeartbeats 2000000 in
theorem excludedCl_any (m y : Mt) (Bm : Nat) (w : World) (hm : At w Bm #[.int .i64 m.kind, .string m.name, .string m.value] 39) (hv : m.value.size ≤ 40000) :
    Calls Tryz.prog 110 #[.agg #[.int .i64 y.kind, .string y.name, .string y.value], .pointer (some ⟨Bm, 0, none⟩)] w fun e w' => e = .returned (.bool (clX m y)) ∧ Below w.heap.size w w' := by
  have HY := Lib.hid (At.new w #[.int .i64 y.kind, .string y.name, .string y.value] 39)
  have HM := Lib.hid (hm.alloc (.cells #[.int .i64 y.kind, .string y.name, .string y.value] 39))
  have HB0 : Hid (Below w.heap.size w (w.alloc (.cells #[.int .i64 y.kind, .string y.name, .string y.value] 39))) := Lib.hid ((Below.refl _ _).alloc (Nat.le_refl _) _)
  have HV := Lib.hid hv
  clear hm hv
  go_enter Tryz.func110, Tryz.ntmps110
  go_upto_region 1 with fail
  generalize w.alloc (.cells #[.int .i64 y.kind, .string y.name, .string y.value] 39) = w0 at *
  have c0 := HY.out.cell 0
  have c1 := HY.out.cell 1
  have c2 := HY.out.cell 2
  have d0 := HM.out.cell 0
  have d1 := HM.out.cell 1
  have d2 := HM.out.cell 2
  have HCO := Lib.hid (excl_any y m w0 HV.out)
  by_cases h3 : y.kind = 3
  · have HR : Hid (clX m y = exclM y m) := Lib.hid (by unfold clX; rw [decide_eq_true h3]; rfl)
    have h3b : (y.kind == 3) = true := by rw [h3]; rfl
    clear h3
    generalize exclM y m = r at *
    go_wp2_with fail
    refine HCO.out.mono ?_
    rintro e w1 ⟨rfl, hb⟩
    have HB1 := Lib.hid (HB0.out.trans (hb.mono HB0.out.size))
    clear hb HCO
    go_wp2_with fail
    go_ret
    exact ⟨ret_bool HR.out.symm, HB1.out⟩
  · have HR : Hid (clX m y = false) := Lib.hid (by unfold clX; rw [decide_eq_false h3]; rfl)
    have h3b : (y.kind == 3) = false := beq_eq_false_iff_ne.2 h3
    clear h3
    go_wp2_with fail
    go_ret
    exact ⟨ret_bool HR.out.symm, HB0.out⟩

/-! ### slices.ContainsFunc with a closure -/
def encM (m : Mt) : List Value := [.int .i64 m.kind, .string m.name, .string m.value]
instance : Inhabited Mt := ⟨Mt.zero⟩
theorem MtsIn.encM {B : Nat} {w : World} {A : Option Addr} {ms : List Mt} (h : MtsIn B w A ms) (hne : ms ≠ []) : ∃ b o, A = some ⟨b, o, none⟩ ∧ b < B ∧ ∀ j, j < ms.length → ∀ i v, (encM ms[j]!)[i]? = some v → w.cell? ⟨b, o + j * 3 + i, none⟩ = some v := by
  have h0 : 0 < ms.length := List.length_pos_iff.2 hne
  obtain ⟨b, o, e, hb, _⟩ := h.at_ 0 h0
  refine ⟨b, o, e, hb, fun j hj i v hv => ?_⟩
  obtain ⟨b', o', e', _, c0, c1, c2⟩ := h.at_ j hj
  rw [e] at e'
  injection e' with e'
  injection e' with e1 e2 _
  subst e1 e2
  rw [getElem!_pos ms j hj] at hv
  match i, hv with
  | 0, hv => simp [Go.Proofs.YthckgmbadmilfaaGreat.encM] at hv; rw [← hv]; exact c0
  | 1, hv => simp [Go.Proofs.YthckgmbadmilfaaGreat.encM] at hv; rw [← hv]; exact c1
  | 2, hv => simp [Go.Proofs.YthckgmbadmilfaaGreat.encM] at hv; rw [← hv]; exact c2
  | i + 3, hv => simp [Go.Proofs.YthckgmbadmilfaaGreat.encM] at hv
theorem aggM (w : World) : (isAgg 39).run Tryz.prog w = .ok true w := Tryz.isAgg39 w
theorem sizM (w : World) : (Go.sizeOf 39).run Tryz.prog w = .ok 3 w := Tryz.sizeOf39 w
end Go.Proofs.YthckgmbadmilfaaGreat

namespace Go.Proofs.YthckgmbadmilfaaGreat
open Go.RowKit

def idxP (p : Mt → Bool) (gs : List Mt) : Int := match gs.findIdx? p with
  | some i => (i : Int)
  | none => -1
theorem idxP_hit {p : Mt → Bool} {gs : List Mt} {k : Nat} (h : k < gs.length) (h1 : ∀ x ∈ gs.take k, p x = false) (h2 : p gs[k] = true) : idxP p gs = k := by
  have : gs.findIdx? p = some k := by
    rw [List.findIdx?_eq_some_iff_getElem]
    refine ⟨h, h2, fun j hj => ?_⟩
    have := h1 gs[j] (List.mem_take_iff_getElem.2 ⟨j, by omega, rfl⟩)
    simp [this]
  unfold idxP
  rw [this]
theorem idxP_miss {p : Mt → Bool} {gs : List Mt} (h1 : ∀ x ∈ gs, p x = false) : idxP p gs = -1 := by
  have : gs.findIdx? p = none := by
    rw [List.findIdx?_eq_none_iff]
    exact h1
  unfold idxP
  rw [this]
theorem idxP_any (p : Mt → Bool) (gs : List Mt) : decide (0 ≤ idxP p gs) = gs.any p := by
  rcases h : gs.any p with _ | _
  · rw [List.any_eq_false] at h
    rw [idxP_miss fun x hx => by simpa using h x hx]
    rfl
  · have h2 : (gs.findIdx? p).isSome = true := by rw [List.findIdx?_isSome]; exact h
    unfold idxP
    rcases hi : gs.findIdx? p with _ | i
    · rw [hi] at h2; cases h2
    · simp
set_option maxRecDepth 100000 in
set_option maxHeartbeats 2000000 in
theorem indexB_any (g : Nat) (b : Nat) (p : Mt → Bool) (eg : ∀ args w, (callFunc g args).run Tryz.prog w = .ok (.enter g args) w) (A : Option Addr) (c : Nat) (gs : List Mt) (w : World) (hm : MtsIn w.heap.size w A gs) (hl : gs.length ≤ 100000)
    (hp : ∀ (W : World) (y : Mt), y ∈ gs → Below w.heap.size w W → Calls Tryz.prog g #[.agg #[.map (some b)], .agg #[.int .i64 y.kind, .string y.name, .string y.value]] W fun e w' => e = .returned (.bool (p y)) ∧ Below W.heap.size W w') :
    Calls Tryz.prog 73 #[.slice A gs.length c, .func (.func g) #[.agg #[.map (some b)]] #[]] w fun e w' => e = .returned (.int .i64 (idxP p gs)) ∧ Below w.heap.size w w' := by
  have HM := Lib.hid hm
  have HP := Lib.hid hp
  clear hm hp
  go_enter Tryz.func73, Tryz.ntmps73
  go_wp2_with fail
  go_loopw [8] (fun i wr => ∃ k : Nat, k ≤ gs.length ∧ i = .int .i64 k ∧ Hid (∀ x ∈ gs.take k, p x = false) ∧ Hid (Below w.heap.size w wr)) (fun i _ => gs.length - (intOf i).toNat)
  case atStart => exact ⟨0, Nat.zero_le _, rfl, Lib.hid (fun x hx => by simp at hx), Lib.hid (Below.refl _ _)⟩
  case round =>
    obtain ⟨k, hk, rfl, HN, HB⟩ := hrel
    by_cases hlt : k < gs.length
    · obtain ⟨q, o, rfl, hg, c0, c1, c2⟩ := (HM.out.below HB.out).at_ k hlt
      have HHIT := Lib.hid (idxP_hit hlt HN.out)
      have HTK : Hid (gs.take (k + 1) = gs.take k ++ [gs[k]]) := Lib.hid (List.take_succ_eq_append_getElem hlt)
      have HC := Lib.hid (HP.out wr gs[k] (List.getElem_mem hlt) HB.out)
      obtain ⟨x, hx⟩ : ∃ x, gs[k] = x := ⟨_, rfl⟩
      rw [hx] at HHIT HTK HC c0 c1 c2
      clear hx
      rcases hpx : p x with _ | _
      · have HN2 : Hid (∀ y ∈ gs.take (k + 1), p y = false) := Lib.hid fun y hy => by
          rw [HTK.out] at hy
          rcases List.mem_append.1 hy with hy | hy
          · exact HN.out y hy
          · rw [List.mem_singleton.1 hy]; exact hpx
        rw [hpx] at HC
        clear HHIT hpx
        have hcall := HC.out
        go_wp2_with (go_at_fn g; refine hcall.mono ?_; rintro e w1 ⟨rfl, hb⟩)
        have HB1 := Lib.hid (HB.out.trans (hb.mono HB.out.size))
        clear hb hcall
        go_wp2_with fail
        go_roundw
        case rel => exact ⟨k + 1, by omega, by go_num, HN2, HB1⟩
        case measure => simp [intOf]; omega
      · have HV : Hid (idxP p gs = k) := Lib.hid (HHIT.out hpx)
        rw [hpx] at HC
        clear HHIT hpx
        have hcall := HC.out
        go_wp2_with (go_at_fn g; refine hcall.mono ?_; rintro e w1 ⟨rfl, hb⟩)
        have HB1 := Lib.hid (HB.out.trans (hb.mono HB.out.size))
        clear hb hcall
        go_wp2_with fail
        go_ret
        exact ⟨ret_int HV.out.symm, HB1.out⟩
    · have HV : Hid (idxP p gs = -1) := Lib.hid (idxP_miss (by
        have hN := HN.out
        rw [List.take_of_length_le (by omega)] at hN
        exact hN))
      go_wp2_with fail
      go_ret
      exact ⟨ret_int HV.out.symm, HB.out⟩
set_option maxHeartbeats 1000000 in
theorem containsB_any (g : Nat) (b : Nat) (p : Mt → Bool) (eg : ∀ args w, (callFunc g args).run Tryz.prog w = .ok (.enter g args) w) (A : Option Addr) (c : Nat) (gs : List Mt) (w : World) (hm : MtsIn w.heap.size w A gs) (hl : gs.length ≤ 100000)
    (hp : ∀ (W : World) (y : Mt), y ∈ gs → Below w.heap.size w W → Calls Tryz.prog g #[.agg #[.map (some b)], .agg #[.int .i64 y.kind, .string y.name, .string y.value]] W fun e w' => e = .returned (.bool (p y)) ∧ Below W.heap.size W w') :
    Calls Tryz.prog 44 #[.slice A gs.length c, .func (.func g) #[.agg #[.map (some b)]] #[]] w fun e w' => e = .returned (.bool (gs.any p)) ∧ Below w.heap.size w w' := by
  have HI := Lib.hid (indexB_any g b p eg A c gs w hm hl hp)
  have HA := Lib.hid (idxP_any p gs)
  clear hm hp
  generalize idxP p gs = q at *
  go_enter Tryz.func44, Tryz.ntmps44
  go_wp2_with fail
  refine HI.out.mono ?_
  rintro e w1 ⟨rfl, hb⟩
  go_wp2_with fail
  go_ret
  exact ⟨ret_bool HA.out, hb⟩
set_option maxRecDepth 100000 in
set_option maxHeartbeats 2000000 in
theorem indexC_any (g : Nat) (b : Nat) (p : Mt → Bool) (eg : ∀ args w, (callFunc g args).run Tryz.prog w = .ok (.enter g args) w) (A : Option Addr) (c : Nat) (gs : List Mt) (w : World) (hm : MtsIn w.heap.size w A gs) (hl : gs.length ≤ 100000)
    (hp : ∀ (W : World) (y : Mt), y ∈ gs → Below w.heap.size w W → Calls Tryz.prog g #[.agg #[.int .i64 y.kind, .string y.name, .string y.value], .pointer (some ⟨b, 0, none⟩)] W fun e w' => e = .returned (.bool (p y)) ∧ Below W.heap.size W w') :
    Calls Tryz.prog 73 #[.slice A gs.length c, .func (.func g) #[] #[.pointer (some ⟨b, 0, none⟩)]] w fun e w' => e = .returned (.int .i64 (idxP p gs)) ∧ Below w.heap.size w w' := by
  have HM := Lib.hid hm
  have HP := Lib.hid hp
  clear hm hp
  go_enter Tryz.func73, Tryz.ntmps73
  go_wp2_with fail
  go_loopw [8] (fun i wr => ∃ k : Nat, k ≤ gs.length ∧ i = .int .i64 k ∧ Hid (∀ x ∈ gs.take k, p x = false) ∧ Hid (Below w.heap.size w wr)) (fun i _ => gs.length - (intOf i).toNat)
  case atStart => exact ⟨0, Nat.zero_le _, rfl, Lib.hid (fun x hx => by simp at hx), Lib.hid (Below.refl _ _)⟩
  case round =>
    obtain ⟨k, hk, rfl, HN, HB⟩ := hrel
    by_cases hlt : k < gs.length
    · obtain ⟨q, o, rfl, hg, c0, c1, c2⟩ := (HM.out.below HB.out).at_ k hlt
      have HHIT := Lib.hid (idxP_hit hlt HN.out)
      have HTK : Hid (gs.take (k + 1) = gs.take k ++ [gs[k]]) := Lib.hid (List.take_succ_eq_append_getElem hlt)
      have HC := Lib.hid (HP.out wr gs[k] (List.getElem_mem hlt) HB.out)
      obtain ⟨x, hx⟩ : ∃ x, gs[k] = x := ⟨_, rfl⟩
      rw [hx] at HHIT HTK HC c0 c1 c2
      clear hx
      rcases hpx : p x with _ | _
      · have HN2 : Hid (∀ y ∈ gs.take (k + 1), p y = false) := Lib.hid fun y hy => by
          rw [HTK.out] at hy
          rcases List.mem_append.1 hy with hy | hy
          · exact HN.out y hy
          · rw [List.mem_singleton.1 hy]; exact hpx
        rw [hpx] at HC
        clear HHIT hpx
        have hcall := HC.out
        go_wp2_with (go_at_fn g; refine hcall.mono ?_; rintro e w1 ⟨rfl, hb⟩)
        have HB1 := Lib.hid (HB.out.trans (hb.mono HB.out.size))
        clear hb hcall
        go_wp2_with fail
        go_roundw
        case rel => exact ⟨k + 1, by omega, by go_num, HN2, HB1⟩
        case measure => simp [intOf]; omega
      · have HV : Hid (idxP p gs = k) := Lib.hid (HHIT.out hpx)
        rw [hpx] at HC
        clear HHIT hpx
        have hcall := HC.out
        go_wp2_with (go_at_fn g; refine hcall.mono ?_; rintro e w1 ⟨rfl, hb⟩)
        have HB1 := Lib.hid (HB.out.trans (hb.mono HB.out.size))
        clear hb hcall
        go_wp2_with fail
        go_ret
        exact ⟨ret_int HV.out.symm, HB1.out⟩
    · have HV : Hid (idxP p gs = -1) := Lib.hid (idxP_miss (by
        have hN := HN.out
        rw [List.take_of_length_le (by omega)] at hN
        exact hN))
      go_wp2_with fail
      go_ret
      exact ⟨ret_int HV.out.symm, HB.out⟩
set_option maxHeartbeats 1000000 in
theorem containsC_any (g : Nat) (b : Nat) (p : Mt → Bool) (eg : ∀ args w, (callFunc g args).run Tryz.prog w = .ok (.enter g args) w) (A : Option Addr) (c : Nat) (gs : List Mt) (w : World) (hm : MtsIn w.heap.size w A gs) (hl : gs.length ≤ 100000)
    (hp : ∀ (W : World) (y : Mt), y ∈ gs → Below w.heap.size w W → Calls Tryz.prog g #[.agg #[.int .i64 y.kind, .string y.name, .string y.value], .pointer (some ⟨b, 0, none⟩)] W fun e w' => e = .returned (.bool (p y)) ∧ Below W.heap.size W w') :
    Calls Tryz.prog 44 #[.slice A gs.length c, .func (.func g) #[] #[.pointer (some ⟨b, 0, none⟩)]] w fun e w' => e = .returned (.bool (gs.any p)) ∧ Below w.heap.size w w' := by
  have HI := Lib.hid (indexC_any g b p eg A c gs w hm hl hp)
  have HA := Lib.hid (idxP_any p gs)
  clear hm hp
  generalize idxP p gs = q at *
  go_enter Tryz.func44, Tryz.ntmps44
  go_wp2_with fail
  refine HI.out.mono ?_
  rintro e w1 ⟨rfl, hb⟩
  go_wp2_with fail
  go_ret
  exact ⟨ret_bool HA.out, hb⟩
end Go.Proofs.YthckgmbadmilfaaGreat
