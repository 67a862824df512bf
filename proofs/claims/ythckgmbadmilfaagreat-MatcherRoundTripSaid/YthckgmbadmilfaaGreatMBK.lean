/- The reference's walks: brackets. -/
import Derived.Test.YthckgmbadmilfaaGreatMBJ
namespace Go.Proofs.YthckgmbadmilfaaGreat
open Go.RowKit Rx
/-- A set with a range of bytes, up to one. -/
def raddTo (g : UInt8 → Bool) (a k : Nat) : UInt8 → Bool := fun x => g x || (decide (a ≤ x.toNat) && decide (x.toNat < k))
theorem raddTo_zero (g : UInt8 → Bool) (a : Nat) : raddTo g a a = g := by
  funext x
  unfold raddTo
  by_cases h : a ≤ x.toNat
  · rw [decide_eq_false (p := x.toNat < a) (by omega)]; simp
  · rw [decide_eq_false h]; simp
theorem raddTo_all (g : UInt8 → Bool) (a b : UInt8) : raddTo g a.toNat (b.toNat + 1) = add g a b := by
  funext x
  unfold raddTo add
  by_cases h : x.toNat ≤ b.toNat
  · rw [decide_eq_true h, decide_eq_true (p := x.toNat < b.toNat + 1) (by omega)]
  · rw [decide_eq_false h, decide_eq_false (p := x.toNat < b.toNat + 1) (by omega)]
theorem raddTo_set (g : UInt8 → Bool) (a k : Nat) (h : a ≤ k) (x : UInt8) : raddTo g a (k + 1) x = if x.toNat = k then true else raddTo g a k x := by
  unfold raddTo
  by_cases e : x.toNat = k
  · rw [if_pos e, decide_eq_true (p := a ≤ x.toNat) (by omega), decide_eq_true (p := x.toNat < k + 1) (by omega)]; simp
  · rw [if_neg e]
    by_cases h2 : x.toNat < k
    · rw [decide_eq_true h2, decide_eq_true (p := x.toNat < k + 1) (by omega)]
    · rw [decide_eq_false h2, decide_eq_false (p := x.toNat < k + 1) (by omega)]
/-- A set turned up to a byte. -/
def invF (g : UInt8 → Bool) (inv : Bool) (j : Nat) : UInt8 → Bool := fun x => if x.toNat < j then g x != inv else g x
theorem inv_zero (g : UInt8 → Bool) (inv : Bool) : invF g inv 0 = g := by funext x; simp [invF]
theorem inv_all (g : UInt8 → Bool) (inv : Bool) : invF g inv 256 = fun c => g c != inv := by
  funext x
  have := x.toNat_lt
  simp [invF, this]
theorem inv_set (g : UInt8 → Bool) (inv : Bool) (j : Nat) (x : UInt8) : invF g inv (j + 1) x = if x.toNat = j then (g (UInt8.ofNat j) != inv) else invF g inv j x := by
  unfold invF
  by_cases e : x.toNat = j
  · have hx : UInt8.ofNat j = x := by rw [← e]; simp
    rw [if_pos e, if_pos (by omega), hx]
  · rw [if_neg e]
    by_cases h2 : x.toNat < j
    · rw [if_pos h2, if_pos (by omega)]
    · rw [if_neg h2, if_neg (by omega)]
theorem inv_at (g : UInt8 → Bool) (inv : Bool) (j : Nat) (hj : j < 256) : invF g inv j (UInt8.ofNat j) = g (UInt8.ofNat j) := by
  unfold invF
  rw [if_neg (by rw [UInt8.toNat_ofNat']; omega)]
/-- What is left to read of a class. -/
def bnext (st : Bool) (m : Nat) (g : UInt8 → Bool) (l : List UInt8) : Option ((UInt8 → Bool) × List UInt8) := if st then items m g l else match l with
  | 93 :: r => some (g, r)
  | _ => items m g l
theorem bnext_nil (st : Bool) (m : Nat) (g : UInt8 → Bool) : bnext st m g [] = none := by
  have : items m g [] = none := by cases m <;> simp [items, item]
  unfold bnext
  cases st <;> simp [this]
theorem bnext_end (m : Nat) (g : UInt8 → Bool) (r : List UInt8) : bnext false m g (93 :: r) = some (g, r) := by simp [bnext]
theorem bnext_first (m : Nat) (g : UInt8 → Bool) (r : List UInt8) : bnext true m g (93 :: r) = none := by
  unfold bnext
  cases m <;> simp [items, item]
theorem bnext_go (st : Bool) (m : Nat) (g : UInt8 → Bool) (c : UInt8) (r : List UInt8) (h : c ≠ 93) : bnext st m g (c :: r) = items m g (c :: r) := by
  unfold bnext
  cases st
  · simp only [Bool.false_eq_true, if_false]
    split
    · rename_i h2; injection h2 with h2 _; exact absurd h2 h
    · rfl
  · simp
theorem ritems_succ (m : Nat) (g : UInt8 → Bool) (l : List UInt8) : items (m + 1) g l = (item l).bind fun x => (last x.1 x.2).bind fun y => bnext false m (add g x.1 y.1) y.2 := by
  rw [items]
  rfl
theorem last_one {a : UInt8} {r : List UInt8} (h : isRange r = false) : last a r = some (a, r) := by unfold last; rw [h]; rfl
theorem last_range {a y : UInt8} {r : List UInt8} (h : y ≠ 93) : last a (45 :: y :: r) = (item (y :: r)).bind fun x => if x.1.toNat < a.toNat then none else some x := by
  unfold last
  have : isRange (45 :: y :: r) = true := by simp [isRange, h]
  rw [if_pos this]; rfl
/-- What brackets hands back. -/
def brRes (inv : Bool) (x : Option ((UInt8 → Bool) × List UInt8)) : Option (U × List UInt8) := x.map fun y => (U.cls (fun c => y.1 c != inv), y.2)
theorem results_node3 {fn : Func} {p q r : Tmp} {P : Program} {ty : TypeId} (h : fn.results = #[.cell p ty, .tmp q, .tmp r]) (tmps : Array Value) (w : World) (g : Nat) (t : TypeId) (cs : Array Value) (d : TypeDesc)
    (hp : tmps.getD p undef = .pointer (some ⟨g, 0, none⟩)) (hg : At w g cs t)
    (hu : P.underlying ty = some d) (hd : (match d with | .struct _ | .array _ _ => true | _ => false) = true) (hi : (P.info? ty).map (·.size) = some cs.size) :
    (results fn tmps).run P w = .ok (.tuple #[.agg cs, tmps.getD q undef, tmps.getD r undef]) w := by
  have hp' : tmps[p]?.getD undef = .pointer (some ⟨g, 0, none⟩) := by simpa using hp
  simp [results, h, hp', asAddr, run_loadVar_row w g t ty cs (0, 0) d hg.out hu hd hi]

set_option maxRecDepth 100000 in
set_option maxHeartbeats 8000000 in
theorem rbrackets_any (s : ByteArray) (i : Nat) (l : List UInt8) (inv : Bool) (W : World) (hs : s.size ≤ 1000) (hl : RP s i l) :
    Calls Tryz.prog 166 #[.string s, .int .i64 i, .bool inv] W (RUPost s W (brRes inv (items (l.length + 1) noF l))) := by
  have HBU := Lib.hid built2
  have HZ := Lib.hid zero_node
  have HIT := Lib.hid (fun i l w h => ritem_any6 s i l w hs h)
  have HL := Lib.hid hl
  have HSZ := Lib.hid hs
  have hsi : (s.size : Int) ≤ 1000 := by omega
  obtain ⟨R, hR⟩ : ∃ R, brRes inv (items (l.length + 1) noF l) = R := ⟨_, rfl⟩
  have HRS : Hid (R = brRes inv (bnext true (l.length + 1) noF l)) := Lib.hid (by rw [← hR]; rfl)
  rw [hR]
  clear hR hs hl
  go_enter Tryz.func166, Tryz.ntmps166
  go_wp2_with (refine wpList_store_at6 rfl 112 (.tmp 9) (.tmp 17) rfl (W.heap.size + 1) _ rfl rfl 112 _ (at_two W _ _ _ _) (by rw [HBU.out]; exact size_nodeC _ _ _ _) (by rw [HBU.out, HZ.out, nodeC_size, nodeC_size]) (by rw [HBU.out]; exact nodeC_one _ _ _ _ rfl) ?_)
  intro w1 hw1
  have h1 : At w1 (W.heap.size + 1) (nodeC 1 noF false nilS) 112 := by rw [hw1.out, HBU.out]; exact (at_two W _ _ _ _).row
  have h2 : At w1 W.heap.size (nodeC 0 noF false nilS) 112 := by
    rw [hw1.out, ← zero_node]
    exact ((At.new W _ _).alloc _).rowOther (by omega)
  have h3 : Below W.heap.size W w1 := by
    rw [hw1.out]
    exact below_row6 (((Below.refl _ _).alloc (Nat.le_refl _) _).alloc (by show W.heap.size ≤ (W.heap.push _).size; simp) _) _ _ (by omega)
  have H1 := Lib.hid h1
  have H2 := Lib.hid h2
  have H3 := Lib.hid h3
  clear hw1 h1 h2 h3
  go_wp2_with fail
  go_loopg [1] (s.size + 1) (fun k iv wr => ∃ (j m : Nat) (g : UInt8 → Bool) (l' : List UInt8), k = s.size + 1 - (j - i) ∧ i ≤ j ∧ iv = .int .i64 j ∧ RP s j l' ∧ l'.length < m ∧ R = brRes inv (bnext (decide (j = i)) m g l') ∧ At wr (W.heap.size + 1) (nodeC 1 g false nilS) 112 ∧ At wr W.heap.size (nodeC 0 noF false nilS) 112 ∧ Below W.heap.size W wr)
  case atStart => exact ⟨i, l.length + 1, noF, l, by omega, Nat.le_refl _, rfl, HL.out, by omega, by rw [decide_eq_true rfl]; exact HRS.out, H1.out, H2.out, H3.out⟩
  case round =>
    obtain ⟨j, m, g, l', hk, hij, rfl, hrp, hm, hres, h1, h2, h3⟩ := hrel
    clear H1 H2 H3 HRS
    have H1 := Lib.hid h1
    have H2 := Lib.hid h2
    have H3 := Lib.hid h3
    have HRP := Lib.hid hrp
    have HRES := Lib.hid hres
    have HM := Lib.hid hm
    have HIJ := Lib.hid hij
    have hjs := hrp.le
    have hjl : (j : Int) ≤ 1000 := by omega
    have HK := Lib.hid hk
    have HJS := Lib.hid hjs
    clear h1 h2 h3 hres hm hij hk hjs
    rcases l' with _ | ⟨c, r⟩
    · have hje : j = s.size := hrp.nil
      have HNO : Hid (R = none) := Lib.hid (by rw [HRES.out, bnext_nil]; rfl)
      have t1 : ¬ (j : Int) < (s.size : Int) := by omega
      have t1n : ¬ j < s.size := by omega
      have t2 : (j : Int) ≥ (s.size : Int) := by omega
      have t2n : s.size ≤ j := by omega
      clear hrp hje
      go_wp2_with (first | (refine wpList_load_at rfl 112 (.tmp 9) rfl (W.heap.size + 1) rfl 112 _ _ H1.out Tryz.underlying112 rfl (size_nodeC _ _ _ _) ?_) | (refine wpList_store_at6 rfl 112 (.tmp 6) (.tmp 96) rfl W.heap.size _ rfl rfl 112 _ H2.out (size_nodeC _ _ _ _) (by rw [nodeC_size, nodeC_size]) (nodeC_one _ _ _ _ rfl) ?_))
      intro w3 hw3
      have H6 : Hid (At w3 W.heap.size (nodeC 1 g false nilS) 112) := Lib.hid (by rw [hw3.out]; exact H2.out.row)
      have H7 : Hid (Below W.heap.size W w3) := Lib.hid (by rw [hw3.out]; exact below_row6 H3.out _ _ (Nat.le_refl _))
      clear hw3
      go_wp2_with fail
      refine bodyPost_ret (results_node3 rfl _ _ W.heap.size 112 _ _ rfl H6.out Tryz.underlying112 rfl (size_nodeC _ _ _ _)) rfl ?_
      exact RUPost.no _ _ HNO.out H7.out (NV.node _ _ _ _ rfl)
    · have hjlt := hrp.lt
      have hget : s[j]'hjlt = c := hrp.get
      have t1 : (j : Int) < (s.size : Int) := by omega
      have t2 : ¬ (j : Int) ≥ (s.size : Int) := by omega
      have t2n : ¬ s.size ≤ j := by omega
      have HN := Lib.hid hrp.next
      clear hrp
      by_cases e93 : c = 93
      · subst e93
        by_cases eji : j = i
        · subst eji
          have HNO : Hid (R = none) := Lib.hid (by rw [HRES.out, decide_eq_true rfl, bnext_first]; rfl)
          go_wp2_with (first | (refine wpList_load_at rfl 112 (.tmp 9) rfl (W.heap.size + 1) rfl 112 _ _ H1.out Tryz.underlying112 rfl (size_nodeC _ _ _ _) ?_) | (refine wpList_store_at6 rfl 112 (.tmp 6) (.tmp 96) rfl W.heap.size _ rfl rfl 112 _ H2.out (size_nodeC _ _ _ _) (by rw [nodeC_size, nodeC_size]) (nodeC_one _ _ _ _ rfl) ?_))
          intro w3 hw3
          have H6 : Hid (At w3 W.heap.size (nodeC 1 g false nilS) 112) := Lib.hid (by rw [hw3.out]; exact H2.out.row)
          have H7 : Hid (Below W.heap.size W w3) := Lib.hid (by rw [hw3.out]; exact below_row6 H3.out _ _ (Nat.le_refl _))
          clear hw3
          go_wp2_with fail
          refine bodyPost_ret (results_node3 rfl _ _ W.heap.size 112 _ _ rfl H6.out Tryz.underlying112 rfl (size_nodeC _ _ _ _)) rfl ?_
          exact RUPost.no _ _ HNO.out H7.out (NV.node _ _ _ _ rfl)
        · have eji2 : ((j : Int) == (i : Int)) = false := by rw [beq_eq_false_iff_ne]; omega
          have eji3 : ¬ (j : Int) = (i : Int) := by omega
          have HYES : Hid (R = some (U.cls (fun c => g c != inv), r)) := Lib.hid (by rw [HRES.out, decide_eq_false eji, bnext_end]; rfl)
          clear eji
          go_wp2_with fail
          go_loopg [16] 257 (fun k iv wr => ∃ n : Nat, k = 257 - n ∧ n ≤ 256 ∧ iv = .int .i64 n ∧ At wr (W.heap.size + 1) (nodeC 1 (invF g inv n) false nilS) 112 ∧ At wr W.heap.size (nodeC 0 noF false nilS) 112 ∧ Below W.heap.size W wr)
          case atStart => exact ⟨0, rfl, by omega, rfl, by rw [inv_zero]; exact H1.out, H2.out, H3.out⟩
          case round =>
            obtain ⟨n, hk, hn, rfl, h1, h2, h3⟩ := hrel
            clear H1 H2 H3
            have H1 := Lib.hid h1
            have H2 := Lib.hid h2
            have H3 := Lib.hid h3
            clear h1 h2 h3
            have hnl : (n : Int) ≤ 256 := by omega
            by_cases hlt : n < 256
            · have hlti : (n : Int) < 256 := by omega
              have hmo : 257 - (n + 1) < gk := by omega
              have HMO := Lib.hid hmo
              have HLT := Lib.hid hlt
              have d0 : wr.cell? ⟨W.heap.size + 1, 1 + n, none⟩ = some (.bool (g (UInt8.ofNat n))) := by rw [H1.out.cell, nodeC_bit _ _ _ _ _ hlt, inv_at _ _ _ hlt]
              have d1 : wr.frozen? ⟨W.heap.size + 1, 1 + n, none⟩ = false := H1.out.free _
              have hnext : ∀ b : Bool, (g (UInt8.ofNat n) != inv) = b → At (wr.setCell ⟨W.heap.size + 1, 1 + n, none⟩ (.bool b)) (W.heap.size + 1) (nodeC 1 (invF g inv (n + 1)) false nilS) 112 ∧ At (wr.setCell ⟨W.heap.size + 1, 1 + n, none⟩ (.bool b)) W.heap.size (nodeC 0 noF false nilS) 112 ∧ Below W.heap.size W (wr.setCell ⟨W.heap.size + 1, 1 + n, none⟩ (.bool b)) := fun b hb => by
                subst hb
                refine ⟨?_, H2.out.other _ (by show W.heap.size ≠ W.heap.size + 1; omega), H3.out.setCell (by show W.heap.size ≤ W.heap.size + 1; omega) _⟩
                rw [← nodeC_setBit 1 (invF g inv n) (invF g inv (n + 1)) false nilS n _ hlt (fun x => inv_set g inv n x)]
                exact H1.out.set _ _
              have HNX := Lib.hid hnext
              clear hmo hk hnext hlt
              generalize g (UInt8.ofNat n) = x at *
              cases x <;> cases inv
              all_goals
                have hz := HNX.out _ rfl
                have HZZ := Lib.hid hz
                clear hz
                go_wp2_with fail
                go_roundg (257 - (n + 1))
                case measure => exact HMO.out
                case rel => exact ⟨n + 1, rfl, by have := HLT.out; omega, rfl, HZZ.out⟩
            · have HJ : Hid (n = 256) := Lib.hid (by omega)
              have hlti : ¬ (n : Int) < 256 := by omega
              have H4 : Hid (At wr (W.heap.size + 1) (nodeC 1 (fun c => g c != inv) false nilS) 112) := Lib.hid (by have := H1.out; rw [HJ.out, inv_all] at this; exact this)
              clear hk hlt
              go_wp2_with (first | (refine wpList_load_at rfl 112 (.tmp 9) rfl (W.heap.size + 1) rfl 112 _ _ H4.out Tryz.underlying112 rfl (size_nodeC _ _ _ _) ?_) | (refine wpList_store_at6 rfl 112 (.tmp 6) (.tmp 111) rfl W.heap.size _ rfl rfl 112 _ H2.out (size_nodeC _ _ _ _) (by rw [nodeC_size, nodeC_size]) (nodeC_one _ _ _ _ rfl) ?_))
              intro w3 hw3
              have H6 : Hid (At w3 W.heap.size (nodeC 1 (fun c => g c != inv) false nilS) 112) := Lib.hid (by rw [hw3.out]; exact H2.out.row)
              have H7 : Hid (Below W.heap.size W w3) := Lib.hid (by rw [hw3.out]; exact below_row6 H3.out _ _ (Nat.le_refl _))
              clear hw3
              go_wp2_with fail
              refine bodyPost_ret (results_node3 rfl _ _ W.heap.size 112 _ _ rfl H6.out Tryz.underlying112 rfl (size_nodeC _ _ _ _)) rfl ?_
              exact RUPost.yes _ (j + 1) HYES.out H7.out (by unfold RnU; rfl) ⟨HN.out.len, HN.out.rest⟩
      · have d93 : ((c.toNat : Int) != 93) = true := by rw [bne_iff_ne]; exact beq_eq_false_iff_ne.1 (u8_ne e93)
        obtain ⟨m, rfl⟩ : ∃ k, m = k + 1 := ⟨m - 1, by have := HM.out; omega⟩
        have HRE2 : Hid (R = brRes inv ((item (c :: r)).bind fun x => (last x.1 x.2).bind fun y => bnext false m (add g x.1 y.1) y.2)) := Lib.hid (by rw [HRES.out, bnext_go _ _ _ _ _ e93, ritems_succ])
        clear e93 HRES
        have hit := HIT.out j (c :: r)
        have hshort := fun a r1 (h : item (c :: r) = some (a, r1)) => item_short h
        have HSH := Lib.hid hshort
        clear hshort
        rcases hi : item (c :: r) with _ | ⟨a, r1⟩
        · have HNO : Hid (R = none) := Lib.hid (by rw [HRE2.out, hi]; rfl)
          have HIC : Hid (∀ w, Calls Tryz.prog 173 #[.string s, .int .i64 j] w fun e w' => w = w' ∧ ∃ (b : UInt8) (q : Nat), q ≤ s.size ∧ e = .returned (.tuple #[.int .u8 b.toNat, .int .i64 q, .bool false])) := Lib.hid (fun w => (hit w HRP.out).mono fun e w' h => by unfold ItemPost at h; rw [hi] at h; exact h)
          clear hi hit HRE2
          go_wp2_with fail
          refine (HIC.out _).mono ?_
          rintro e w' ⟨rfl, b, q, _, rfl⟩
          go_wp2_with (first | (refine wpList_load_at rfl 112 (.tmp 9) rfl (W.heap.size + 1) rfl 112 _ _ H1.out Tryz.underlying112 rfl (size_nodeC _ _ _ _) ?_) | (refine wpList_store_at6 rfl 112 (.tmp 6) (.tmp 73) rfl W.heap.size _ rfl rfl 112 _ H2.out (size_nodeC _ _ _ _) (by rw [nodeC_size, nodeC_size]) (nodeC_one _ _ _ _ rfl) ?_))
          intro w3 hw3
          have H6 : Hid (At w3 W.heap.size (nodeC 1 g false nilS) 112) := Lib.hid (by rw [hw3.out]; exact H2.out.row)
          have H7 : Hid (Below W.heap.size W w3) := Lib.hid (by rw [hw3.out]; exact below_row6 H3.out _ _ (Nat.le_refl _))
          clear hw3
          go_wp2_with fail
          refine bodyPost_ret (results_node3 rfl _ _ W.heap.size 112 _ _ rfl H6.out Tryz.underlying112 rfl (size_nodeC _ _ _ _)) rfl ?_
          exact RUPost.no _ _ HNO.out H7.out (NV.node _ _ _ _ rfl)
        · have HRE3 : Hid (R = brRes inv ((last a r1).bind fun y => bnext false m (add g a y.1) y.2)) := Lib.hid (by rw [HRE2.out, hi]; rfl)
          have HIC : Hid (∀ w, Calls Tryz.prog 173 #[.string s, .int .i64 j] w fun e w' => w = w' ∧ ∃ q, RP s q r1 ∧ e = .returned (.tuple #[.int .u8 a.toNat, .int .i64 (q : Nat), .bool true])) := Lib.hid (fun w => (hit w HRP.out).mono fun e w' h => by unfold ItemPost at h; rw [hi] at h; exact h)
          have HSH1 := Lib.hid (HSH.out a r1 hi)
          clear hi hit HRE2 HSH
          go_wp2_with fail
          refine (HIC.out _).mono ?_
          rintro e w' ⟨rfl, q, hq, rfl⟩
          have HQ := Lib.hid hq
          have hqs := hq.le
          have hql : (q : Int) ≤ 1000 := by omega
          have hal := a.toNat_lt
          have haa : ¬ (a.toNat : Int) < (a.toNat : Int) := by omega
          rcases hr1 : isRange r1 with _ | _
          · have HLA : Hid (R = brRes inv (bnext false m (add g a a) r1)) := Lib.hid (by rw [HRE3.out, last_one hr1]; rfl)
            have HAB : Hid (a.toNat ≤ a.toNat) := Lib.hid (Nat.le_refl _)
            have HQ2 := HQ
            have HSH2 : Hid (r1.length ≤ r1.length) := Lib.hid (Nat.le_refl _)
            clear HRE3
            rcases r1 with _ | ⟨x, r1⟩
            · have u1 : ¬ (q : Int) + 1 < (s.size : Int) := by have := hq.nil; omega
              clear hr1 hq
              go_wp2_with fail
              obtain ⟨wo, hwo⟩ : ∃ wo : World, wo = wr := ⟨_, rfl⟩
              subst hwo
              go_loopg [15] (257 - a.toNat) (fun k iv wr => ∃ n : Nat, k = 257 - n ∧ a.toNat ≤ n ∧ n ≤ a.toNat + 1 ∧ iv = .int .i64 n ∧ At wr (W.heap.size + 1) (nodeC 1 (raddTo g a.toNat n) false nilS) 112 ∧ At wr W.heap.size (nodeC 0 noF false nilS) 112 ∧ Below W.heap.size W wr)
              case atStart => exact ⟨a.toNat, rfl, Nat.le_refl _, by have := HAB.out; omega, rfl, by rw [raddTo_zero]; exact H1.out, H2.out, H3.out⟩
              case round =>
                obtain ⟨n, hk, han, hnb, rfl, h1, h2, h3⟩ := hrel
                clear H1 H2 H3
                have H1 := Lib.hid h1
                have H2 := Lib.hid h2
                have H3 := Lib.hid h3
                clear h1 h2 h3
                have hnl : (n : Int) ≤ 256 := by have := a.toNat_lt; omega
                by_cases hlt : n ≤ a.toNat
                · have hlti : (n : Int) ≤ (a.toNat : Int) := by omega
                  have hn256 : n < 256 := by have := a.toNat_lt; omega
                  have hn256i : (n : Int) < 256 := by omega
                  have hmo : 257 - (n + 1) < gk := by omega
                  have HMO := Lib.hid hmo
                  have HAN := Lib.hid han
                  have HLT := Lib.hid hlt
                  have d0 : wr.cell? ⟨W.heap.size + 1, 1 + n, none⟩ = some (.bool (raddTo g a.toNat n (UInt8.ofNat n))) := by rw [H1.out.cell, nodeC_bit _ _ _ _ _ hn256]
                  have d1 : wr.frozen? ⟨W.heap.size + 1, 1 + n, none⟩ = false := H1.out.free _
                  have HZZ : Hid (At (wr.setCell ⟨W.heap.size + 1, 1 + n, none⟩ (.bool true)) (W.heap.size + 1) (nodeC 1 (raddTo g a.toNat (n + 1)) false nilS) 112 ∧ At (wr.setCell ⟨W.heap.size + 1, 1 + n, none⟩ (.bool true)) W.heap.size (nodeC 0 noF false nilS) 112 ∧ Below W.heap.size W (wr.setCell ⟨W.heap.size + 1, 1 + n, none⟩ (.bool true))) := Lib.hid (by
                    refine ⟨?_, H2.out.other _ (by show W.heap.size ≠ W.heap.size + 1; omega), H3.out.setCell (by show W.heap.size ≤ W.heap.size + 1; omega) _⟩
                    rw [← nodeC_setBit 1 (raddTo g a.toNat n) (raddTo g a.toNat (n + 1)) false nilS n _ hn256 (fun x => raddTo_set g a.toNat n han x)]
                    exact H1.out.set _ _)
                  clear hmo hk han hnb hlt
                  generalize raddTo g a.toNat n (UInt8.ofNat n) = old at *
                  go_wp2_with fail
                  go_roundg (257 - (n + 1))
                  case measure => exact HMO.out
                  case rel => exact ⟨n + 1, rfl, by have := HAN.out; omega, by have := HLT.out; omega, rfl, HZZ.out⟩
                · have HJ : Hid (n = a.toNat + 1) := Lib.hid (by omega)
                  have hlti : ¬ (n : Int) ≤ (a.toNat : Int) := by omega
                  have H4 : Hid (At wr (W.heap.size + 1) (nodeC 1 (add g a a) false nilS) 112) := Lib.hid (by have := H1.out; rw [HJ.out, raddTo_all] at this; exact this)
                  have hadv : j < q ∧ q ≤ s.size := by
                    have e1 := HRP.out.len
                    have e2 := HQ2.out.len
                    have e3 := HQ2.out.le
                    have e4 := HSH2.out
                    have e5 := HSH1.out
                    have e0 : ([] : List UInt8).length = 0 := rfl
                    simp only [List.length_cons] at e1 e2 e4 e5
                    omega
                  have HAD := Lib.hid hadv
                  clear hk han hnb hlt hadv
                  go_wp2_with fail
                  go_roundg (s.size + 1 - (q - i))
                  case measure =>
                    have e1 := HAD.out
                    have e2 := HK.out
                    have e3 := HIJ.out
                    omega
                  case rel => exact ⟨q, m, add g a a, _, rfl, by have := HAD.out; have := HIJ.out; omega, rfl, HQ2.out, by
                    have e1 := HM.out
                    have e4 := HSH2.out
                    have e5 := HSH1.out
                    simp only [List.length_cons] at e1 e4 e5 ⊢
                    omega, by rw [decide_eq_false (by have := HAD.out; have := HIJ.out; omega)]; exact HLA.out, H4.out, H2.out, H3.out⟩
            · have hqlt := hq.lt
              have hgx : s[q]'hqlt = x := hq.get
              have HQN := Lib.hid hq.next
              clear hq
              rcases r1 with _ | ⟨y, r1⟩
              · have u1 : ¬ (q : Int) + 1 < (s.size : Int) := by have := HQN.out.nil; omega
                clear hr1
                go_wp2_with fail
                obtain ⟨wo, hwo⟩ : ∃ wo : World, wo = wr := ⟨_, rfl⟩
                subst hwo
                go_loopg [15] (257 - a.toNat) (fun k iv wr => ∃ n : Nat, k = 257 - n ∧ a.toNat ≤ n ∧ n ≤ a.toNat + 1 ∧ iv = .int .i64 n ∧ At wr (W.heap.size + 1) (nodeC 1 (raddTo g a.toNat n) false nilS) 112 ∧ At wr W.heap.size (nodeC 0 noF false nilS) 112 ∧ Below W.heap.size W wr)
                case atStart => exact ⟨a.toNat, rfl, Nat.le_refl _, by have := HAB.out; omega, rfl, by rw [raddTo_zero]; exact H1.out, H2.out, H3.out⟩
                case round =>
                  obtain ⟨n, hk, han, hnb, rfl, h1, h2, h3⟩ := hrel
                  clear H1 H2 H3
                  have H1 := Lib.hid h1
                  have H2 := Lib.hid h2
                  have H3 := Lib.hid h3
                  clear h1 h2 h3
                  have hnl : (n : Int) ≤ 256 := by have := a.toNat_lt; omega
                  by_cases hlt : n ≤ a.toNat
                  · have hlti : (n : Int) ≤ (a.toNat : Int) := by omega
                    have hn256 : n < 256 := by have := a.toNat_lt; omega
                    have hn256i : (n : Int) < 256 := by omega
                    have hmo : 257 - (n + 1) < gk := by omega
                    have HMO := Lib.hid hmo
                    have HAN := Lib.hid han
                    have HLT := Lib.hid hlt
                    have d0 : wr.cell? ⟨W.heap.size + 1, 1 + n, none⟩ = some (.bool (raddTo g a.toNat n (UInt8.ofNat n))) := by rw [H1.out.cell, nodeC_bit _ _ _ _ _ hn256]
                    have d1 : wr.frozen? ⟨W.heap.size + 1, 1 + n, none⟩ = false := H1.out.free _
                    have HZZ : Hid (At (wr.setCell ⟨W.heap.size + 1, 1 + n, none⟩ (.bool true)) (W.heap.size + 1) (nodeC 1 (raddTo g a.toNat (n + 1)) false nilS) 112 ∧ At (wr.setCell ⟨W.heap.size + 1, 1 + n, none⟩ (.bool true)) W.heap.size (nodeC 0 noF false nilS) 112 ∧ Below W.heap.size W (wr.setCell ⟨W.heap.size + 1, 1 + n, none⟩ (.bool true))) := Lib.hid (by
                      refine ⟨?_, H2.out.other _ (by show W.heap.size ≠ W.heap.size + 1; omega), H3.out.setCell (by show W.heap.size ≤ W.heap.size + 1; omega) _⟩
                      rw [← nodeC_setBit 1 (raddTo g a.toNat n) (raddTo g a.toNat (n + 1)) false nilS n _ hn256 (fun x => raddTo_set g a.toNat n han x)]
                      exact H1.out.set _ _)
                    clear hmo hk han hnb hlt
                    generalize raddTo g a.toNat n (UInt8.ofNat n) = old at *
                    go_wp2_with fail
                    go_roundg (257 - (n + 1))
                    case measure => exact HMO.out
                    case rel => exact ⟨n + 1, rfl, by have := HAN.out; omega, by have := HLT.out; omega, rfl, HZZ.out⟩
                  · have HJ : Hid (n = a.toNat + 1) := Lib.hid (by omega)
                    have hlti : ¬ (n : Int) ≤ (a.toNat : Int) := by omega
                    have H4 : Hid (At wr (W.heap.size + 1) (nodeC 1 (add g a a) false nilS) 112) := Lib.hid (by have := H1.out; rw [HJ.out, raddTo_all] at this; exact this)
                    have hadv : j < q ∧ q ≤ s.size := by
                      have e1 := HRP.out.len
                      have e2 := HQ2.out.len
                      have e3 := HQ2.out.le
                      have e4 := HSH2.out
                      have e5 := HSH1.out
                      have e0 : ([] : List UInt8).length = 0 := rfl
                      simp only [List.length_cons] at e1 e2 e4 e5
                      omega
                    have HAD := Lib.hid hadv
                    clear hk han hnb hlt hadv
                    go_wp2_with fail
                    go_roundg (s.size + 1 - (q - i))
                    case measure =>
                      have e1 := HAD.out
                      have e2 := HK.out
                      have e3 := HIJ.out
                      omega
                    case rel => exact ⟨q, m, add g a a, _, rfl, by have := HAD.out; have := HIJ.out; omega, rfl, HQ2.out, by
                      have e1 := HM.out
                      have e4 := HSH2.out
                      have e5 := HSH1.out
                      simp only [List.length_cons] at e1 e4 e5 ⊢
                      omega, by rw [decide_eq_false (by have := HAD.out; have := HIJ.out; omega)]; exact HLA.out, H4.out, H2.out, H3.out⟩
              · have hqlt2 := HQN.out.lt
                have hgy : s[q + 1]'hqlt2 = y := HQN.out.get
                have u1 : (q : Int) + 1 < (s.size : Int) := by omega
                by_cases ex : x = 45
                · subst ex
                  have ey : y = 93 := by
                    simp [isRange] at hr1
                    exact hr1
                  subst ey
                  clear hr1
                  go_wp2_with fail
                  obtain ⟨wo, hwo⟩ : ∃ wo : World, wo = wr := ⟨_, rfl⟩
                  subst hwo
                  go_loopg [15] (257 - a.toNat) (fun k iv wr => ∃ n : Nat, k = 257 - n ∧ a.toNat ≤ n ∧ n ≤ a.toNat + 1 ∧ iv = .int .i64 n ∧ At wr (W.heap.size + 1) (nodeC 1 (raddTo g a.toNat n) false nilS) 112 ∧ At wr W.heap.size (nodeC 0 noF false nilS) 112 ∧ Below W.heap.size W wr)
                  case atStart => exact ⟨a.toNat, rfl, Nat.le_refl _, by have := HAB.out; omega, rfl, by rw [raddTo_zero]; exact H1.out, H2.out, H3.out⟩
                  case round =>
                    obtain ⟨n, hk, han, hnb, rfl, h1, h2, h3⟩ := hrel
                    clear H1 H2 H3
                    have H1 := Lib.hid h1
                    have H2 := Lib.hid h2
                    have H3 := Lib.hid h3
                    clear h1 h2 h3
                    have hnl : (n : Int) ≤ 256 := by have := a.toNat_lt; omega
                    by_cases hlt : n ≤ a.toNat
                    · have hlti : (n : Int) ≤ (a.toNat : Int) := by omega
                      have hn256 : n < 256 := by have := a.toNat_lt; omega
                      have hn256i : (n : Int) < 256 := by omega
                      have hmo : 257 - (n + 1) < gk := by omega
                      have HMO := Lib.hid hmo
                      have HAN := Lib.hid han
                      have HLT := Lib.hid hlt
                      have d0 : wr.cell? ⟨W.heap.size + 1, 1 + n, none⟩ = some (.bool (raddTo g a.toNat n (UInt8.ofNat n))) := by rw [H1.out.cell, nodeC_bit _ _ _ _ _ hn256]
                      have d1 : wr.frozen? ⟨W.heap.size + 1, 1 + n, none⟩ = false := H1.out.free _
                      have HZZ : Hid (At (wr.setCell ⟨W.heap.size + 1, 1 + n, none⟩ (.bool true)) (W.heap.size + 1) (nodeC 1 (raddTo g a.toNat (n + 1)) false nilS) 112 ∧ At (wr.setCell ⟨W.heap.size + 1, 1 + n, none⟩ (.bool true)) W.heap.size (nodeC 0 noF false nilS) 112 ∧ Below W.heap.size W (wr.setCell ⟨W.heap.size + 1, 1 + n, none⟩ (.bool true))) := Lib.hid (by
                        refine ⟨?_, H2.out.other _ (by show W.heap.size ≠ W.heap.size + 1; omega), H3.out.setCell (by show W.heap.size ≤ W.heap.size + 1; omega) _⟩
                        rw [← nodeC_setBit 1 (raddTo g a.toNat n) (raddTo g a.toNat (n + 1)) false nilS n _ hn256 (fun x => raddTo_set g a.toNat n han x)]
                        exact H1.out.set _ _)
                      clear hmo hk han hnb hlt
                      generalize raddTo g a.toNat n (UInt8.ofNat n) = old at *
                      go_wp2_with fail
                      go_roundg (257 - (n + 1))
                      case measure => exact HMO.out
                      case rel => exact ⟨n + 1, rfl, by have := HAN.out; omega, by have := HLT.out; omega, rfl, HZZ.out⟩
                    · have HJ : Hid (n = a.toNat + 1) := Lib.hid (by omega)
                      have hlti : ¬ (n : Int) ≤ (a.toNat : Int) := by omega
                      have H4 : Hid (At wr (W.heap.size + 1) (nodeC 1 (add g a a) false nilS) 112) := Lib.hid (by have := H1.out; rw [HJ.out, raddTo_all] at this; exact this)
                      have hadv : j < q ∧ q ≤ s.size := by
                        have e1 := HRP.out.len
                        have e2 := HQ2.out.len
                        have e3 := HQ2.out.le
                        have e4 := HSH2.out
                        have e5 := HSH1.out
                        have e0 : ([] : List UInt8).length = 0 := rfl
                        simp only [List.length_cons] at e1 e2 e4 e5
                        omega
                      have HAD := Lib.hid hadv
                      clear hk han hnb hlt hadv
                      go_wp2_with fail
                      go_roundg (s.size + 1 - (q - i))
                      case measure =>
                        have e1 := HAD.out
                        have e2 := HK.out
                        have e3 := HIJ.out
                        omega
                      case rel => exact ⟨q, m, add g a a, _, rfl, by have := HAD.out; have := HIJ.out; omega, rfl, HQ2.out, by
                        have e1 := HM.out
                        have e4 := HSH2.out
                        have e5 := HSH1.out
                        simp only [List.length_cons] at e1 e4 e5 ⊢
                        omega, by rw [decide_eq_false (by have := HAD.out; have := HIJ.out; omega)]; exact HLA.out, H4.out, H2.out, H3.out⟩
                · have u2 : ((x.toNat : Int) == 45) = false := u8_ne ex
                  clear hr1 ex
                  go_wp2_with fail
                  obtain ⟨wo, hwo⟩ : ∃ wo : World, wo = wr := ⟨_, rfl⟩
                  subst hwo
                  go_loopg [15] (257 - a.toNat) (fun k iv wr => ∃ n : Nat, k = 257 - n ∧ a.toNat ≤ n ∧ n ≤ a.toNat + 1 ∧ iv = .int .i64 n ∧ At wr (W.heap.size + 1) (nodeC 1 (raddTo g a.toNat n) false nilS) 112 ∧ At wr W.heap.size (nodeC 0 noF false nilS) 112 ∧ Below W.heap.size W wr)
                  case atStart => exact ⟨a.toNat, rfl, Nat.le_refl _, by have := HAB.out; omega, rfl, by rw [raddTo_zero]; exact H1.out, H2.out, H3.out⟩
                  case round =>
                    obtain ⟨n, hk, han, hnb, rfl, h1, h2, h3⟩ := hrel
                    clear H1 H2 H3
                    have H1 := Lib.hid h1
                    have H2 := Lib.hid h2
                    have H3 := Lib.hid h3
                    clear h1 h2 h3
                    have hnl : (n : Int) ≤ 256 := by have := a.toNat_lt; omega
                    by_cases hlt : n ≤ a.toNat
                    · have hlti : (n : Int) ≤ (a.toNat : Int) := by omega
                      have hn256 : n < 256 := by have := a.toNat_lt; omega
                      have hn256i : (n : Int) < 256 := by omega
                      have hmo : 257 - (n + 1) < gk := by omega
                      have HMO := Lib.hid hmo
                      have HAN := Lib.hid han
                      have HLT := Lib.hid hlt
                      have d0 : wr.cell? ⟨W.heap.size + 1, 1 + n, none⟩ = some (.bool (raddTo g a.toNat n (UInt8.ofNat n))) := by rw [H1.out.cell, nodeC_bit _ _ _ _ _ hn256]
                      have d1 : wr.frozen? ⟨W.heap.size + 1, 1 + n, none⟩ = false := H1.out.free _
                      have HZZ : Hid (At (wr.setCell ⟨W.heap.size + 1, 1 + n, none⟩ (.bool true)) (W.heap.size + 1) (nodeC 1 (raddTo g a.toNat (n + 1)) false nilS) 112 ∧ At (wr.setCell ⟨W.heap.size + 1, 1 + n, none⟩ (.bool true)) W.heap.size (nodeC 0 noF false nilS) 112 ∧ Below W.heap.size W (wr.setCell ⟨W.heap.size + 1, 1 + n, none⟩ (.bool true))) := Lib.hid (by
                        refine ⟨?_, H2.out.other _ (by show W.heap.size ≠ W.heap.size + 1; omega), H3.out.setCell (by show W.heap.size ≤ W.heap.size + 1; omega) _⟩
                        rw [← nodeC_setBit 1 (raddTo g a.toNat n) (raddTo g a.toNat (n + 1)) false nilS n _ hn256 (fun x => raddTo_set g a.toNat n han x)]
                        exact H1.out.set _ _)
                      clear hmo hk han hnb hlt
                      generalize raddTo g a.toNat n (UInt8.ofNat n) = old at *
                      go_wp2_with fail
                      go_roundg (257 - (n + 1))
                      case measure => exact HMO.out
                      case rel => exact ⟨n + 1, rfl, by have := HAN.out; omega, by have := HLT.out; omega, rfl, HZZ.out⟩
                    · have HJ : Hid (n = a.toNat + 1) := Lib.hid (by omega)
                      have hlti : ¬ (n : Int) ≤ (a.toNat : Int) := by omega
                      have H4 : Hid (At wr (W.heap.size + 1) (nodeC 1 (add g a a) false nilS) 112) := Lib.hid (by have := H1.out; rw [HJ.out, raddTo_all] at this; exact this)
                      have hadv : j < q ∧ q ≤ s.size := by
                        have e1 := HRP.out.len
                        have e2 := HQ2.out.len
                        have e3 := HQ2.out.le
                        have e4 := HSH2.out
                        have e5 := HSH1.out
                        have e0 : ([] : List UInt8).length = 0 := rfl
                        simp only [List.length_cons] at e1 e2 e4 e5
                        omega
                      have HAD := Lib.hid hadv
                      clear hk han hnb hlt hadv
                      go_wp2_with fail
                      go_roundg (s.size + 1 - (q - i))
                      case measure =>
                        have e1 := HAD.out
                        have e2 := HK.out
                        have e3 := HIJ.out
                        omega
                      case rel => exact ⟨q, m, add g a a, _, rfl, by have := HAD.out; have := HIJ.out; omega, rfl, HQ2.out, by
                        have e1 := HM.out
                        have e4 := HSH2.out
                        have e5 := HSH1.out
                        simp only [List.length_cons] at e1 e4 e5 ⊢
                        omega, by rw [decide_eq_false (by have := HAD.out; have := HIJ.out; omega)]; exact HLA.out, H4.out, H2.out, H3.out⟩
          · obtain ⟨y, r2, rfl, hy⟩ : ∃ y r2, r1 = 45 :: y :: r2 ∧ y ≠ 93 := by
              rcases r1 with _ | ⟨x, _ | ⟨y, r2⟩⟩
              · simp [isRange] at hr1
              · simp [isRange] at hr1
              · simp [isRange] at hr1
                exact ⟨y, r2, by rw [hr1.1], hr1.2⟩
            have hqlt := hq.lt
            have hgx : s[q]'hqlt = 45 := hq.get
            have HQN := Lib.hid hq.next
            have hqlt2 := HQN.out.lt
            have hgy : s[q + 1]'hqlt2 = y := HQN.out.get
            have u1 : (q : Int) + 1 < (s.size : Int) := by omega
            have u2 : ((y.toNat : Int) != 93) = true := by rw [bne_iff_ne]; exact beq_eq_false_iff_ne.1 (u8_ne hy)
            have HRE4 : Hid (R = brRes inv (((item (y :: r2)).bind fun x => if x.1.toNat < a.toNat then none else some x).bind fun y => bnext false m (add g a y.1) y.2)) := Lib.hid (by rw [HRE3.out, last_range hy])
            clear hq hr1 hy HRE3
            have hit := HIT.out (q + 1) (y :: r2)
            have HSH4 := Lib.hid (fun b r3 (h : item (y :: r2) = some (b, r3)) => item_short h)
            rcases hi : item (y :: r2) with _ | ⟨b, r3⟩
            · have HNO : Hid (R = none) := Lib.hid (by rw [HRE4.out, hi]; rfl)
              have HIC2 : Hid (∀ w, Calls Tryz.prog 173 #[.string s, .int .i64 ((q : Int) + 1)] w fun e w' => w = w' ∧ ∃ (b : UInt8) (q : Nat), q ≤ s.size ∧ e = .returned (.tuple #[.int .u8 b.toNat, .int .i64 q, .bool false])) := Lib.hid (fun w => (hit w HQN.out).mono fun e w' h => by unfold ItemPost at h; rw [hi] at h; exact h)
              clear hi hit HRE4 HSH4
              go_wp2_with fail
              refine (HIC2.out _).mono ?_
              rintro e w' ⟨rfl, b, q2, _, rfl⟩
              go_wp2_with (first | (refine wpList_load_at rfl 112 (.tmp 9) rfl (W.heap.size + 1) rfl 112 _ _ H1.out Tryz.underlying112 rfl (size_nodeC _ _ _ _) ?_) | (refine wpList_store_at6 rfl 112 (.tmp 6) (.tmp 73) rfl W.heap.size _ rfl rfl 112 _ H2.out (size_nodeC _ _ _ _) (by rw [nodeC_size, nodeC_size]) (nodeC_one _ _ _ _ rfl) ?_))
              intro w3 hw3
              have H6 : Hid (At w3 W.heap.size (nodeC 1 g false nilS) 112) := Lib.hid (by rw [hw3.out]; exact H2.out.row)
              have H7 : Hid (Below W.heap.size W w3) := Lib.hid (by rw [hw3.out]; exact below_row6 H3.out _ _ (Nat.le_refl _))
              clear hw3
              go_wp2_with fail
              refine bodyPost_ret (results_node3 rfl _ _ W.heap.size 112 _ _ rfl H6.out Tryz.underlying112 rfl (size_nodeC _ _ _ _)) rfl ?_
              exact RUPost.no _ _ HNO.out H7.out (NV.node _ _ _ _ rfl)
            · have HIC2 : Hid (∀ w, Calls Tryz.prog 173 #[.string s, .int .i64 ((q : Int) + 1)] w fun e w' => w = w' ∧ ∃ q2, RP s q2 r3 ∧ e = .returned (.tuple #[.int .u8 b.toNat, .int .i64 (q2 : Nat), .bool true])) := Lib.hid (fun w => (hit w HQN.out).mono fun e w' h => by unfold ItemPost at h; rw [hi] at h; exact h)
              have HSH2 : Hid (r3.length ≤ (45 :: y :: r2).length) := Lib.hid (by have := HSH4.out b r3 hi; simp only [List.length_cons] at this ⊢; omega)
              have hbl := b.toNat_lt
              by_cases hba : b.toNat < a.toNat
              · have HNO : Hid (R = none) := Lib.hid (by rw [HRE4.out, hi]; simp only [Option.bind_some]; rw [if_pos hba]; rfl)
                have hbai : (b.toNat : Int) < (a.toNat : Int) := by omega
                clear hi hit HRE4 HSH4 hba
                go_wp2_with fail
                refine (HIC2.out _).mono ?_
                rintro e w' ⟨rfl, q2, _, rfl⟩
                go_wp2_with (first | (refine wpList_load_at rfl 112 (.tmp 9) rfl (W.heap.size + 1) rfl 112 _ _ H1.out Tryz.underlying112 rfl (size_nodeC _ _ _ _) ?_) | (refine wpList_store_at6 rfl 112 (.tmp 6) (.tmp 73) rfl W.heap.size _ rfl rfl 112 _ H2.out (size_nodeC _ _ _ _) (by rw [nodeC_size, nodeC_size]) (nodeC_one _ _ _ _ rfl) ?_))
                intro w3 hw3
                have H6 : Hid (At w3 W.heap.size (nodeC 1 g false nilS) 112) := Lib.hid (by rw [hw3.out]; exact H2.out.row)
                have H7 : Hid (Below W.heap.size W w3) := Lib.hid (by rw [hw3.out]; exact below_row6 H3.out _ _ (Nat.le_refl _))
                clear hw3
                go_wp2_with fail
                refine bodyPost_ret (results_node3 rfl _ _ W.heap.size 112 _ _ rfl H6.out Tryz.underlying112 rfl (size_nodeC _ _ _ _)) rfl ?_
                exact RUPost.no _ _ HNO.out H7.out (NV.node _ _ _ _ rfl)
              · have HLA : Hid (R = brRes inv (bnext false m (add g a b) r3)) := Lib.hid (by rw [HRE4.out, hi]; simp only [Option.bind_some]; rw [if_neg hba]; rfl)
                have hbai : ¬ (b.toNat : Int) < (a.toNat : Int) := by omega
                have HAB : Hid (a.toNat ≤ b.toNat) := Lib.hid (by omega)
                clear hi hit HRE4 HSH4 hba
                go_wp2_with fail
                refine (HIC2.out _).mono ?_
                rintro e w' ⟨rfl, q2, hq2, rfl⟩
                have HQ2 := Lib.hid hq2
                have hq2l : (q2 : Int) ≤ 1000 := by have := hq2.le; omega
                clear hq2
                go_wp2_with fail
                obtain ⟨wo, hwo⟩ : ∃ wo : World, wo = wr := ⟨_, rfl⟩
                subst hwo
                go_loopg [15] (257 - a.toNat) (fun k iv wr => ∃ n : Nat, k = 257 - n ∧ a.toNat ≤ n ∧ n ≤ b.toNat + 1 ∧ iv = .int .i64 n ∧ At wr (W.heap.size + 1) (nodeC 1 (raddTo g a.toNat n) false nilS) 112 ∧ At wr W.heap.size (nodeC 0 noF false nilS) 112 ∧ Below W.heap.size W wr)
                case atStart => exact ⟨a.toNat, rfl, Nat.le_refl _, by have := HAB.out; omega, rfl, by rw [raddTo_zero]; exact H1.out, H2.out, H3.out⟩
                case round =>
                  obtain ⟨n, hk, han, hnb, rfl, h1, h2, h3⟩ := hrel
                  clear H1 H2 H3
                  have H1 := Lib.hid h1
                  have H2 := Lib.hid h2
                  have H3 := Lib.hid h3
                  clear h1 h2 h3
                  have hnl : (n : Int) ≤ 256 := by have := b.toNat_lt; omega
                  by_cases hlt : n ≤ b.toNat
                  · have hlti : (n : Int) ≤ (b.toNat : Int) := by omega
                    have hn256 : n < 256 := by have := b.toNat_lt; omega
                    have hn256i : (n : Int) < 256 := by omega
                    have hmo : 257 - (n + 1) < gk := by omega
                    have HMO := Lib.hid hmo
                    have HAN := Lib.hid han
                    have HLT := Lib.hid hlt
                    have d0 : wr.cell? ⟨W.heap.size + 1, 1 + n, none⟩ = some (.bool (raddTo g a.toNat n (UInt8.ofNat n))) := by rw [H1.out.cell, nodeC_bit _ _ _ _ _ hn256]
                    have d1 : wr.frozen? ⟨W.heap.size + 1, 1 + n, none⟩ = false := H1.out.free _
                    have HZZ : Hid (At (wr.setCell ⟨W.heap.size + 1, 1 + n, none⟩ (.bool true)) (W.heap.size + 1) (nodeC 1 (raddTo g a.toNat (n + 1)) false nilS) 112 ∧ At (wr.setCell ⟨W.heap.size + 1, 1 + n, none⟩ (.bool true)) W.heap.size (nodeC 0 noF false nilS) 112 ∧ Below W.heap.size W (wr.setCell ⟨W.heap.size + 1, 1 + n, none⟩ (.bool true))) := Lib.hid (by
                      refine ⟨?_, H2.out.other _ (by show W.heap.size ≠ W.heap.size + 1; omega), H3.out.setCell (by show W.heap.size ≤ W.heap.size + 1; omega) _⟩
                      rw [← nodeC_setBit 1 (raddTo g a.toNat n) (raddTo g a.toNat (n + 1)) false nilS n _ hn256 (fun x => raddTo_set g a.toNat n han x)]
                      exact H1.out.set _ _)
                    clear hmo hk han hnb hlt
                    generalize raddTo g a.toNat n (UInt8.ofNat n) = old at *
                    go_wp2_with fail
                    go_roundg (257 - (n + 1))
                    case measure => exact HMO.out
                    case rel => exact ⟨n + 1, rfl, by have := HAN.out; omega, by have := HLT.out; omega, rfl, HZZ.out⟩
                  · have HJ : Hid (n = b.toNat + 1) := Lib.hid (by omega)
                    have hlti : ¬ (n : Int) ≤ (b.toNat : Int) := by omega
                    have H4 : Hid (At wr (W.heap.size + 1) (nodeC 1 (add g a b) false nilS) 112) := Lib.hid (by have := H1.out; rw [HJ.out, raddTo_all] at this; exact this)
                    have hadv : j < q2 ∧ q2 ≤ s.size := by
                      have e1 := HRP.out.len
                      have e2 := HQ2.out.len
                      have e3 := HQ2.out.le
                      have e4 := HSH2.out
                      have e5 := HSH1.out
                      have e0 : ([] : List UInt8).length = 0 := rfl
                      simp only [List.length_cons] at e1 e2 e4 e5
                      omega
                    have HAD := Lib.hid hadv
                    clear hk han hnb hlt hadv
                    go_wp2_with fail
                    go_roundg (s.size + 1 - (q2 - i))
                    case measure =>
                      have e1 := HAD.out
                      have e2 := HK.out
                      have e3 := HIJ.out
                      omega
                    case rel => exact ⟨q2, m, add g a b, _, rfl, by have := HAD.out; have := HIJ.out; omega, rfl, HQ2.out, by
                      have e1 := HM.out
                      have e4 := HSH2.out
                      have e5 := HSH1.out
                      simp only [List.length_cons] at e1 e4 e5 ⊢
                      omega, by rw [decide_eq_false (by have := HAD.out; have := HIJ.out; omega)]; exact HLA.out, H4.out, H2.out, H3.out⟩
end Go.Proofs.YthckgmbadmilfaaGreat
