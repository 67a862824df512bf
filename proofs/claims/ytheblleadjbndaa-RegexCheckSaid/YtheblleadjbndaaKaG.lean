/- The reference's walks: brackets. The reference's walks: repeated. The reference's compile: the class. The reference's compile: a sequence. The reference's compile: repetitions. The reference's compile: alternatives. The reference's compile: every tree. -/
import Derived.Test.YtheblleadjbndaaKaF
import Derived.Test.YtheblleadjbndaaKaD
import Derived.Test.YtheblleadjbndaaKaB
namespace Go.Proofs.Ytheblleadjbndaa
open Go.RowKit Rx
/-- A set with a range of bytes, up to one. -/
def raddTo (g : UInt8 → Bool) (a k : Nat) : UInt8 → Bool := fun x => g x || (decide (a ≤ x.toNat) && decide (x.toNat < k))
theorem raddTo_zero (g : UInt8 → Bool) (a : Nat) : raddTo g a a = g := by
  funext x
  unfold raddTo
  by_cases h : a ≤ x.toNat
  · rw [decide_eq_false (p := x.toNat < a) (by omega)]; simp
  · rw [decide_eq_false h]; simp
theorem raddTo_all (g : UInt8 → Bool) (a b : UInt8) : raddTo g a.toNat (b.toNat + 1) = add g a b := by
  funext x
  unfold raddTo add
  by_cases h : x.toNat ≤ b.toNat
  · rw [decide_eq_true h, decide_eq_true (p := x.toNat < b.toNat + 1) (by omega)]
  · rw [decide_eq_false h, decide_eq_false (p := x.toNat < b.toNat + 1) (by omega)]
theorem raddTo_set (g : UInt8 → Bool) (a k : Nat) (h : a ≤ k) (x : UInt8) : raddTo g a (k + 1) x = if x.toNat = k then true else raddTo g a k x := by
  unfold raddTo
  by_cases e : x.toNat = k
  · rw [if_pos e, decide_eq_true (p := a ≤ x.toNat) (by omega), decide_eq_true (p := x.toNat < k + 1) (by omega)]; simp
  · rw [if_neg e]
    by_cases h2 : x.toNat < k
    · rw [decide_eq_true h2, decide_eq_true (p := x.toNat < k + 1) (by omega)]
    · rw [decide_eq_false h2, decide_eq_false (p := x.toNat < k + 1) (by omega)]
/-- A set turned up to a byte. -/
def invF (g : UInt8 → Bool) (inv : Bool) (j : Nat) : UInt8 → Bool := fun x => if x.toNat < j then g x != inv else g x
theorem inv_zero (g : UInt8 → Bool) (inv : Bool) : invF g inv 0 = g := by funext x; simp [invF]
theorem inv_all (g : UInt8 → Bool) (inv : Bool) : invF g inv 256 = fun c => g c != inv := by
  funext x
  have := x.toNat_lt
  simp [invF, this]
theorem inv_set (g : UInt8 → Bool) (inv : Bool) (j : Nat) (x : UInt8) : invF g inv (j + 1) x = if x.toNat = j then (g (UInt8.ofNat j) != inv) else invF g inv j x := by
  unfold invF
  by_cases e : x.toNat = j
  · have hx : UInt8.ofNat j = x := by rw [← e]; simp
    rw [if_pos e, if_pos (by omega), hx]
  · rw [if_neg e]
    by_cases h2 : x.toNat < j
    · rw [if_pos h2, if_pos (by omega)]
    · rw [if_neg h2, if_neg (by omega)]
theorem inv_at (g : UInt8 → Bool) (inv : Bool) (j : Nat) (hj : j < 256) : invF g inv j (UInt8.ofNat j) = g (UInt8.ofNat j) := by
  unfold invF
  rw [if_neg (by rw [UInt8.toNat_ofNat']; omega)]
/-- What is left to read of a class. -/
def bnext (st : Bool) (m : Nat) (g : UInt8 → Bool) (l : List UInt8) : Option ((UInt8 → Bool) × List UInt8) := if st then items m g l else match l with
  | 93 :: r => some (g, r)
  | _ => items m g l
theorem bnext_nil (st : Bool) (m : Nat) (g : UInt8 → Bool) : bnext st m g [] = none := by
  have : items m g [] = none := by cases m <;> simp [items, item]
  unfold bnext
  cases st <;> simp [this]
theorem bnext_end (m : Nat) (g : UInt8 → Bool) (r : List UInt8) : bnext false m g (93 :: r) = some (g, r) := by simp [bnext]
theorem bnext_first (m : Nat) (g : UInt8 → Bool) (r : List UInt8) : bnext true m g (93 :: r) = none := by
  unfold bnext
  cases m <;> simp [items, item]
theorem bnext_go (st : Bool) (m : Nat) (g : UInt8 → Bool) (c : UInt8) (r : List UInt8) (h : c ≠ 93) : bnext st m g (c :: r) = items m g (c :: r) := by
  unfold bnext
  cases st
  · simp only [Bool.false_eq_true, if_false]
    split
    · rename_i h2; injection h2 with h2 _; exact absurd h2 h
    · rfl
  · simp
theorem ritems_succ (m : Nat) (g : UInt8 → Bool) (l : List UInt8) : items (m + 1) g l = (item l).bind fun x => (last x.1 x.2).bind fun y => bnext false m (add g x.1 y.1) y.2 := by
  rw [items]
  rfl
theorem last_one {a : UInt8} {r : List UInt8} (h : isRange r = false) : last a r = some (a, r) := by unfold last; rw [h]; rfl
theorem last_range {a y : UInt8} {r : List UInt8} (h : y ≠ 93) : last a (45 :: y :: r) = (item (y :: r)).bind fun x => if x.1.toNat < a.toNat then none else some x := by
  unfold last
  have : isRange (45 :: y :: r) = true := by simp [isRange, h]
  rw [if_pos this]; rfl
/-- What brackets hands back. -/
def brRes (inv : Bool) (x : Option ((UInt8 → Bool) × List UInt8)) : Option (U × List UInt8) := x.map fun y => (U.cls (fun c => y.1 c != inv), y.2)
theorem results_node3 {fn : Func} {p q r : Tmp} {P : Program} {ty : TypeId} (h : fn.results = #[.cell p ty, .tmp q, .tmp r]) (tmps : Array Value) (w : World) (g : Nat) (t : TypeId) (cs : Array Value) (d : TypeDesc)
    (hp : tmps.getD p undef = .pointer (some ⟨g, 0, none⟩)) (hg : At w g cs t)
    (hu : P.underlying ty = some d) (hd : (match d with | .struct _ | .array _ _ => true | _ => false) = true) (hi : (P.info? ty).map (·.size) = some cs.size) :
    (results fn tmps).run P w = .ok (.tuple #[.agg cs, tmps.getD q undef, tmps.getD r undef]) w := by
  have hp' : tmps[p]?.getD undef = .pointer (some ⟨g, 0, none⟩) := by simpa using hp
  simp [results, h, hp', asAddr, run_loadVar_row w g t ty cs (0, 0) d hg.out hu hd hi]

set_option maxRecDepth 100000 in
set_option maxHeartbeats 8000000 in
theorem rbrackets_any (s : ByteArray) (i : Nat) (l : List UInt8) (inv : Bool) (W : World) (hs : s.size ≤ 1000) (hl : RP s i l) :
    Calls Try.prog 64 #[.string s, .int .i64 i, .bool inv] W (RUPost s W (brRes inv (items (l.length + 1) noF l))) := by
  have HBU := Lib.hid built2
  have HZ := Lib.hid zero_node
  have HIT := Lib.hid (fun i l w h => ritem_any s i l w hs h)
  have HL := Lib.hid hl
  have HSZ := Lib.hid hs
  have hsi : (s.size : Int) ≤ 1000 := by omega
  obtain ⟨R, hR⟩ : ∃ R, brRes inv (items (l.length + 1) noF l) = R := ⟨_, rfl⟩
  have HRS : Hid (R = brRes inv (bnext true (l.length + 1) noF l)) := Lib.hid (by rw [← hR]; rfl)
  rw [hR]
  clear hR hs hl
  go_enter Try.func64, Try.ntmps64
  go_wp2_with (refine wpList_store_at rfl 46 (.tmp 9) (.tmp 17) rfl (W.heap.size + 1) _ rfl rfl 46 _ (at_two W _ _ _ _) (by rw [HBU.out]; exact size_nodeC _ _ _ _) (by rw [HBU.out, HZ.out, nodeC_size, nodeC_size]) (by rw [HBU.out]; exact nodeC_one _ _ _ _ rfl) ?_)
  intro w1 hw1
  have h1 : At w1 (W.heap.size + 1) (nodeC 1 noF false nilS) 46 := by rw [hw1.out, HBU.out]; exact (at_two W _ _ _ _).row
  have h2 : At w1 W.heap.size (nodeC 0 noF false nilS) 46 := by
    rw [hw1.out, ← zero_node]
    exact ((At.new W _ _).alloc _).rowOther (by omega)
  have h3 : Below W.heap.size W w1 := by
    rw [hw1.out]
    exact below_row (((Below.refl _ _).alloc (Nat.le_refl _) _).alloc (by show W.heap.size ≤ (W.heap.push _).size; simp) _) _ _ (by omega)
  have H1 := Lib.hid h1
  have H2 := Lib.hid h2
  have H3 := Lib.hid h3
  clear hw1 h1 h2 h3
  go_wp2_with fail
  go_loopg [1] (s.size + 1) (fun k iv wr => ∃ (j m : Nat) (g : UInt8 → Bool) (l' : List UInt8), k = s.size + 1 - (j - i) ∧ i ≤ j ∧ iv = .int .i64 j ∧ RP s j l' ∧ l'.length < m ∧ R = brRes inv (bnext (decide (j = i)) m g l') ∧ At wr (W.heap.size + 1) (nodeC 1 g false nilS) 46 ∧ At wr W.heap.size (nodeC 0 noF false nilS) 46 ∧ Below W.heap.size W wr)
  case atStart => exact ⟨i, l.length + 1, noF, l, by omega, Nat.le_refl _, rfl, HL.out, by omega, by rw [decide_eq_true rfl]; exact HRS.out, H1.out, H2.out, H3.out⟩
  case round =>
    obtain ⟨j, m, g, l', hk, hij, rfl, hrp, hm, hres, h1, h2, h3⟩ := hrel
    clear H1 H2 H3 HRS
    have H1 := Lib.hid h1
    have H2 := Lib.hid h2
    have H3 := Lib.hid h3
    have HRP := Lib.hid hrp
    have HRES := Lib.hid hres
    have HM := Lib.hid hm
    have HIJ := Lib.hid hij
    have hjs := hrp.le
    have hjl : (j : Int) ≤ 1000 := by omega
    have HK := Lib.hid hk
    have HJS := Lib.hid hjs
    clear h1 h2 h3 hres hm hij hk hjs
    rcases l' with _ | ⟨c, r⟩
    · have hje : j = s.size := hrp.nil
      have HNO : Hid (R = none) := Lib.hid (by rw [HRES.out, bnext_nil]; rfl)
      have t1 : ¬ (j : Int) < (s.size : Int) := by omega
      have t1n : ¬ j < s.size := by omega
      have t2 : (j : Int) ≥ (s.size : Int) := by omega
      have t2n : s.size ≤ j := by omega
      clear hrp hje
      go_wp2_with (first | (refine wpList_load_at rfl 46 (.tmp 9) rfl (W.heap.size + 1) rfl 46 _ _ H1.out Try.underlying46 rfl (size_nodeC _ _ _ _) ?_) | (refine wpList_store_at rfl 46 (.tmp 6) (.tmp 96) rfl W.heap.size _ rfl rfl 46 _ H2.out (size_nodeC _ _ _ _) (by rw [nodeC_size, nodeC_size]) (nodeC_one _ _ _ _ rfl) ?_))
      intro w3 hw3
      have H6 : Hid (At w3 W.heap.size (nodeC 1 g false nilS) 46) := Lib.hid (by rw [hw3.out]; exact H2.out.row)
      have H7 : Hid (Below W.heap.size W w3) := Lib.hid (by rw [hw3.out]; exact below_row H3.out _ _ (Nat.le_refl _))
      clear hw3
      go_wp2_with fail
      refine bodyPost_ret (results_node3 rfl _ _ W.heap.size 46 _ _ rfl H6.out Try.underlying46 rfl (size_nodeC _ _ _ _)) rfl ?_
      exact RUPost.no _ _ HNO.out H7.out (NV.node _ _ _ _ rfl)
    · have hjlt := hrp.lt
      have hget : s[j]'hjlt = c := hrp.get
      have t1 : (j : Int) < (s.size : Int) := by omega
      have t2 : ¬ (j : Int) ≥ (s.size : Int) := by omega
      have t2n : ¬ s.size ≤ j := by omega
      have HN := Lib.hid hrp.next
      clear hrp
      by_cases e93 : c = 93
      · subst e93
        by_cases eji : j = i
        · subst eji
          have HNO : Hid (R = none) := Lib.hid (by rw [HRES.out, decide_eq_true rfl, bnext_first]; rfl)
          go_wp2_with (first | (refine wpList_load_at rfl 46 (.tmp 9) rfl (W.heap.size + 1) rfl 46 _ _ H1.out Try.underlying46 rfl (size_nodeC _ _ _ _) ?_) | (refine wpList_store_at rfl 46 (.tmp 6) (.tmp 96) rfl W.heap.size _ rfl rfl 46 _ H2.out (size_nodeC _ _ _ _) (by rw [nodeC_size, nodeC_size]) (nodeC_one _ _ _ _ rfl) ?_))
          intro w3 hw3
          have H6 : Hid (At w3 W.heap.size (nodeC 1 g false nilS) 46) := Lib.hid (by rw [hw3.out]; exact H2.out.row)
          have H7 : Hid (Below W.heap.size W w3) := Lib.hid (by rw [hw3.out]; exact below_row H3.out _ _ (Nat.le_refl _))
          clear hw3
          go_wp2_with fail
          refine bodyPost_ret (results_node3 rfl _ _ W.heap.size 46 _ _ rfl H6.out Try.underlying46 rfl (size_nodeC _ _ _ _)) rfl ?_
          exact RUPost.no _ _ HNO.out H7.out (NV.node _ _ _ _ rfl)
        · have eji2 : ((j : Int) == (i : Int)) = false := by rw [beq_eq_false_iff_ne]; omega
          have eji3 : ¬ (j : Int) = (i : Int) := by omega
          have HYES : Hid (R = some (U.cls (fun c => g c != inv), r)) := Lib.hid (by rw [HRES.out, decide_eq_false eji, bnext_end]; rfl)
          clear eji
          go_wp2_with fail
          go_loopg [16] 257 (fun k iv wr => ∃ n : Nat, k = 257 - n ∧ n ≤ 256 ∧ iv = .int .i64 n ∧ At wr (W.heap.size + 1) (nodeC 1 (invF g inv n) false nilS) 46 ∧ At wr W.heap.size (nodeC 0 noF false nilS) 46 ∧ Below W.heap.size W wr)
          case atStart => exact ⟨0, rfl, by omega, rfl, by rw [inv_zero]; exact H1.out, H2.out, H3.out⟩
          case round =>
            obtain ⟨n, hk, hn, rfl, h1, h2, h3⟩ := hrel
            clear H1 H2 H3
            have H1 := Lib.hid h1
            have H2 := Lib.hid h2
            have H3 := Lib.hid h3
            clear h1 h2 h3
            have hnl : (n : Int) ≤ 256 := by omega
            by_cases hlt : n < 256
            · have hlti : (n : Int) < 256 := by omega
              have hmo : 257 - (n + 1) < gk := by omega
              have HMO := Lib.hid hmo
              have HLT := Lib.hid hlt
              have d0 : wr.cell? ⟨W.heap.size + 1, 1 + n, none⟩ = some (.bool (g (UInt8.ofNat n))) := by rw [H1.out.cell, nodeC_bit _ _ _ _ _ hlt, inv_at _ _ _ hlt]
              have d1 : wr.frozen? ⟨W.heap.size + 1, 1 + n, none⟩ = false := H1.out.free _
              have hnext : ∀ b : Bool, (g (UInt8.ofNat n) != inv) = b → At (wr.setCell ⟨W.heap.size + 1, 1 + n, none⟩ (.bool b)) (W.heap.size + 1) (nodeC 1 (invF g inv (n + 1)) false nilS) 46 ∧ At (wr.setCell ⟨W.heap.size + 1, 1 + n, none⟩ (.bool b)) W.heap.size (nodeC 0 noF false nilS) 46 ∧ Below W.heap.size W (wr.setCell ⟨W.heap.size + 1, 1 + n, none⟩ (.bool b)) := fun b hb => by
                subst hb
                refine ⟨?_, H2.out.other _ (by show W.heap.size ≠ W.heap.size + 1; omega), H3.out.setCell (by show W.heap.size ≤ W.heap.size + 1; omega) _⟩
                rw [← nodeC_setBit 1 (invF g inv n) (invF g inv (n + 1)) false nilS n _ hlt (fun x => inv_set g inv n x)]
                exact H1.out.set _ _
              have HNX := Lib.hid hnext
              clear hmo hk hnext hlt
              generalize g (UInt8.ofNat n) = x at *
              cases x <;> cases inv
              all_goals
                have hz := HNX.out _ rfl
                have HZZ := Lib.hid hz
                clear hz
                go_wp2_with fail
                go_roundg (257 - (n + 1))
                case measure => exact HMO.out
                case rel => exact ⟨n + 1, rfl, by have := HLT.out; omega, rfl, HZZ.out⟩
            · have HJ : Hid (n = 256) := Lib.hid (by omega)
              have hlti : ¬ (n : Int) < 256 := by omega
              have H4 : Hid (At wr (W.heap.size + 1) (nodeC 1 (fun c => g c != inv) false nilS) 46) := Lib.hid (by have := H1.out; rw [HJ.out, inv_all] at this; exact this)
              clear hk hlt
              go_wp2_with (first | (refine wpList_load_at rfl 46 (.tmp 9) rfl (W.heap.size + 1) rfl 46 _ _ H4.out Try.underlying46 rfl (size_nodeC _ _ _ _) ?_) | (refine wpList_store_at rfl 46 (.tmp 6) (.tmp 111) rfl W.heap.size _ rfl rfl 46 _ H2.out (size_nodeC _ _ _ _) (by rw [nodeC_size, nodeC_size]) (nodeC_one _ _ _ _ rfl) ?_))
              intro w3 hw3
              have H6 : Hid (At w3 W.heap.size (nodeC 1 (fun c => g c != inv) false nilS) 46) := Lib.hid (by rw [hw3.out]; exact H2.out.row)
              have H7 : Hid (Below W.heap.size W w3) := Lib.hid (by rw [hw3.out]; exact below_row H3.out _ _ (Nat.le_refl _))
              clear hw3
              go_wp2_with fail
              refine bodyPost_ret (results_node3 rfl _ _ W.heap.size 46 _ _ rfl H6.out Try.underlying46 rfl (size_nodeC _ _ _ _)) rfl ?_
              exact RUPost.yes _ (j + 1) HYES.out H7.out (by unfold RnU; rfl) ⟨HN.out.len, HN.out.rest⟩
      · have d93 : ((c.toNat : Int) != 93) = true := by rw [bne_iff_ne]; exact beq_eq_false_iff_ne.1 (u8_ne e93)
        obtain ⟨m, rfl⟩ : ∃ k, m = k + 1 := ⟨m - 1, by have := HM.out; omega⟩
        have HRE2 : Hid (R = brRes inv ((item (c :: r)).bind fun x => (last x.1 x.2).bind fun y => bnext false m (add g x.1 y.1) y.2)) := Lib.hid (by rw [HRES.out, bnext_go _ _ _ _ _ e93, ritems_succ])
        clear e93 HRES
        have hit := HIT.out j (c :: r)
        have hshort := fun a r1 (h : item (c :: r) = some (a, r1)) => item_short h
        have HSH := Lib.hid hshort
        clear hshort
        rcases hi : item (c :: r) with _ | ⟨a, r1⟩
        · have HNO : Hid (R = none) := Lib.hid (by rw [HRE2.out, hi]; rfl)
          have HIC : Hid (∀ w, Calls Try.prog 68 #[.string s, .int .i64 j] w fun e w' => w = w' ∧ ∃ (b : UInt8) (q : Nat), q ≤ s.size ∧ e = .returned (.tuple #[.int .u8 b.toNat, .int .i64 q, .bool false])) := Lib.hid (fun w => (hit w HRP.out).mono fun e w' h => by unfold ItemPost at h; rw [hi] at h; exact h)
          clear hi hit HRE2
          go_wp2_with fail
          refine (HIC.out _).mono ?_
          rintro e w' ⟨rfl, b, q, _, rfl⟩
          go_wp2_with (first | (refine wpList_load_at rfl 46 (.tmp 9) rfl (W.heap.size + 1) rfl 46 _ _ H1.out Try.underlying46 rfl (size_nodeC _ _ _ _) ?_) | (refine wpList_store_at rfl 46 (.tmp 6) (.tmp 73) rfl W.heap.size _ rfl rfl 46 _ H2.out (size_nodeC _ _ _ _) (by rw [nodeC_size, nodeC_size]) (nodeC_one _ _ _ _ rfl) ?_))
          intro w3 hw3
          have H6 : Hid (At w3 W.heap.size (nodeC 1 g false nilS) 46) := Lib.hid (by rw [hw3.out]; exact H2.out.row)
          have H7 : Hid (Below W.heap.size W w3) := Lib.hid (by rw [hw3.out]; exact below_row H3.out _ _ (Nat.le_refl _))
          clear hw3
          go_wp2_with fail
          refine bodyPost_ret (results_node3 rfl _ _ W.heap.size 46 _ _ rfl H6.out Try.underlying46 rfl (size_nodeC _ _ _ _)) rfl ?_
          exact RUPost.no _ _ HNO.out H7.out (NV.node _ _ _ _ rfl)
        · have HRE3 : Hid (R = brRes inv ((last a r1).bind fun y => bnext false m (add g a y.1) y.2)) := Lib.hid (by rw [HRE2.out, hi]; rfl)
          have HIC : Hid (∀ w, Calls Try.prog 68 #[.string s, .int .i64 j] w fun e w' => w = w' ∧ ∃ q, RP s q r1 ∧ e = .returned (.tuple #[.int .u8 a.toNat, .int .i64 (q : Nat), .bool true])) := Lib.hid (fun w => (hit w HRP.out).mono fun e w' h => by unfold ItemPost at h; rw [hi] at h; exact h)
          have HSH1 := Lib.hid (HSH.out a r1 hi)
          clear hi hit HRE2 HSH
          go_wp2_with fail
          refine (HIC.out _).mono ?_
          rintro e w' ⟨rfl, q, hq, rfl⟩
          have HQ := Lib.hid hq
          have hqs := hq.le
          have hql : (q : Int) ≤ 1000 := by omega
          have hal := a.toNat_lt
          have haa : ¬ (a.toNat : Int) < (a.toNat : Int) := by omega
          rcases hr1 : isRange r1 with _ | _
          · have HLA : Hid (R = brRes inv (bnext false m (add g a a) r1)) := Lib.hid (by rw [HRE3.out, last_one hr1]; rfl)
            have HAB : Hid (a.toNat ≤ a.toNat) := Lib.hid (Nat.le_refl _)
            have HQ2 := HQ
            have HSH2 : Hid (r1.length ≤ r1.length) := Lib.hid (Nat.le_refl _)
            clear HRE3
            rcases r1 with _ | ⟨x, r1⟩
            · have u1 : ¬ (q : Int) + 1 < (s.size : Int) := by have := hq.nil; omega
              clear hr1 hq
              go_wp2_with fail
              obtain ⟨wo, hwo⟩ : ∃ wo : World, wo = wr := ⟨_, rfl⟩
              subst hwo
              go_loopg [15] (257 - a.toNat) (fun k iv wr => ∃ n : Nat, k = 257 - n ∧ a.toNat ≤ n ∧ n ≤ a.toNat + 1 ∧ iv = .int .i64 n ∧ At wr (W.heap.size + 1) (nodeC 1 (raddTo g a.toNat n) false nilS) 46 ∧ At wr W.heap.size (nodeC 0 noF false nilS) 46 ∧ Below W.heap.size W wr)
              case atStart => exact ⟨a.toNat, rfl, Nat.le_refl _, by have := HAB.out; omega, rfl, by rw [raddTo_zero]; exact H1.out, H2.out, H3.out⟩
              case round =>
                obtain ⟨n, hk, han, hnb, rfl, h1, h2, h3⟩ := hrel
                clear H1 H2 H3
                have H1 := Lib.hid h1
                have H2 := Lib.hid h2
                have H3 := Lib.hid h3
                clear h1 h2 h3
                have hnl : (n : Int) ≤ 256 := by have := a.toNat_lt; omega
                by_cases hlt : n ≤ a.toNat
                · have hlti : (n : Int) ≤ (a.toNat : Int) := by omega
                  have hn256 : n < 256 := by have := a.toNat_lt; omega
                  have hn256i : (n : Int) < 256 := by omega
                  have hmo : 257 - (n + 1) < gk := by omega
                  have HMO := Lib.hid hmo
                  have HAN := Lib.hid han
                  have HLT := Lib.hid hlt
                  have d0 : wr.cell? ⟨W.heap.size + 1, 1 + n, none⟩ = some (.bool (raddTo g a.toNat n (UInt8.ofNat n))) := by rw [H1.out.cell, nodeC_bit _ _ _ _ _ hn256]
                  have d1 : wr.frozen? ⟨W.heap.size + 1, 1 + n, none⟩ = false := H1.out.free _
                  have HZZ : Hid (At (wr.setCell ⟨W.heap.size + 1, 1 + n, none⟩ (.bool true)) (W.heap.size + 1) (nodeC 1 (raddTo g a.toNat (n + 1)) false nilS) 46 ∧ At (wr.setCell ⟨W.heap.size + 1, 1 + n, none⟩ (.bool true)) W.heap.size (nodeC 0 noF false nilS) 46 ∧ Below W.heap.size W (wr.setCell ⟨W.heap.size + 1, 1 + n, none⟩ (.bool true))) := Lib.hid (by
                    refine ⟨?_, H2.out.other _ (by show W.heap.size ≠ W.heap.size + 1; omega), H3.out.setCell (by show W.heap.size ≤ W.heap.size + 1; omega) _⟩
                    rw [← nodeC_setBit 1 (raddTo g a.toNat n) (raddTo g a.toNat (n + 1)) false nilS n _ hn256 (fun x => raddTo_set g a.toNat n han x)]
                    exact H1.out.set _ _)
                  clear hmo hk han hnb hlt
                  generalize raddTo g a.toNat n (UInt8.ofNat n) = old at *
                  go_wp2_with fail
                  go_roundg (257 - (n + 1))
                  case measure => exact HMO.out
                  case rel => exact ⟨n + 1, rfl, by have := HAN.out; omega, by have := HLT.out; omega, rfl, HZZ.out⟩
                · have HJ : Hid (n = a.toNat + 1) := Lib.hid (by omega)
                  have hlti : ¬ (n : Int) ≤ (a.toNat : Int) := by omega
                  have H4 : Hid (At wr (W.heap.size + 1) (nodeC 1 (add g a a) false nilS) 46) := Lib.hid (by have := H1.out; rw [HJ.out, raddTo_all] at this; exact this)
                  have hadv : j < q ∧ q ≤ s.size := by
                    have e1 := HRP.out.len
                    have e2 := HQ2.out.len
                    have e3 := HQ2.out.le
                    have e4 := HSH2.out
                    have e5 := HSH1.out
                    have e0 : ([] : List UInt8).length = 0 := rfl
                    simp only [List.length_cons] at e1 e2 e4 e5
                    omega
                  have HAD := Lib.hid hadv
                  clear hk han hnb hlt hadv
                  go_wp2_with fail
                  go_roundg (s.size + 1 - (q - i))
                  case measure =>
                    have e1 := HAD.out
                    have e2 := HK.out
                    have e3 := HIJ.out
                    omega
                  case rel => exact ⟨q, m, add g a a, _, rfl, by have := HAD.out; have := HIJ.out; omega, rfl, HQ2.out, by
                    have e1 := HM.out
                    have e4 := HSH2.out
                    have e5 := HSH1.out
                    simp only [List.length_cons] at e1 e4 e5 ⊢
                    omega, by rw [decide_eq_false (by have := HAD.out; have := HIJ.out; omega)]; exact HLA.out, H4.out, H2.out, H3.out⟩
            · have hqlt := hq.lt
              have hgx : s[q]'hqlt = x := hq.get
              have HQN := Lib.hid hq.next
              clear hq
              rcases r1 with _ | ⟨y, r1⟩
              · have u1 : ¬ (q : Int) + 1 < (s.size : Int) := by have := HQN.out.nil; omega
                clear hr1
                go_wp2_with fail
                obtain ⟨wo, hwo⟩ : ∃ wo : World, wo = wr := ⟨_, rfl⟩
                subst hwo
                go_loopg [15] (257 - a.toNat) (fun k iv wr => ∃ n : Nat, k = 257 - n ∧ a.toNat ≤ n ∧ n ≤ a.toNat + 1 ∧ iv = .int .i64 n ∧ At wr (W.heap.size + 1) (nodeC 1 (raddTo g a.toNat n) false nilS) 46 ∧ At wr W.heap.size (nodeC 0 noF false nilS) 46 ∧ Below W.heap.size W wr)
                case atStart => exact ⟨a.toNat, rfl, Nat.le_refl _, by have := HAB.out; omega, rfl, by rw [raddTo_zero]; exact H1.out, H2.out, H3.out⟩
                case round =>
                  obtain ⟨n, hk, han, hnb, rfl, h1, h2, h3⟩ := hrel
                  clear H1 H2 H3
                  have H1 := Lib.hid h1
                  have H2 := Lib.hid h2
                  have H3 := Lib.hid h3
                  clear h1 h2 h3
                  have hnl : (n : Int) ≤ 256 := by have := a.toNat_lt; omega
                  by_cases hlt : n ≤ a.toNat
                  · have hlti : (n : Int) ≤ (a.toNat : Int) := by omega
                    have hn256 : n < 256 := by have := a.toNat_lt; omega
                    have hn256i : (n : Int) < 256 := by omega
                    have hmo : 257 - (n + 1) < gk := by omega
                    have HMO := Lib.hid hmo
                    have HAN := Lib.hid han
                    have HLT := Lib.hid hlt
                    have d0 : wr.cell? ⟨W.heap.size + 1, 1 + n, none⟩ = some (.bool (raddTo g a.toNat n (UInt8.ofNat n))) := by rw [H1.out.cell, nodeC_bit _ _ _ _ _ hn256]
                    have d1 : wr.frozen? ⟨W.heap.size + 1, 1 + n, none⟩ = false := H1.out.free _
                    have HZZ : Hid (At (wr.setCell ⟨W.heap.size + 1, 1 + n, none⟩ (.bool true)) (W.heap.size + 1) (nodeC 1 (raddTo g a.toNat (n + 1)) false nilS) 46 ∧ At (wr.setCell ⟨W.heap.size + 1, 1 + n, none⟩ (.bool true)) W.heap.size (nodeC 0 noF false nilS) 46 ∧ Below W.heap.size W (wr.setCell ⟨W.heap.size + 1, 1 + n, none⟩ (.bool true))) := Lib.hid (by
                      refine ⟨?_, H2.out.other _ (by show W.heap.size ≠ W.heap.size + 1; omega), H3.out.setCell (by show W.heap.size ≤ W.heap.size + 1; omega) _⟩
                      rw [← nodeC_setBit 1 (raddTo g a.toNat n) (raddTo g a.toNat (n + 1)) false nilS n _ hn256 (fun x => raddTo_set g a.toNat n han x)]
                      exact H1.out.set _ _)
                    clear hmo hk han hnb hlt
                    generalize raddTo g a.toNat n (UInt8.ofNat n) = old at *
                    go_wp2_with fail
                    go_roundg (257 - (n + 1))
                    case measure => exact HMO.out
                    case rel => exact ⟨n + 1, rfl, by have := HAN.out; omega, by have := HLT.out; omega, rfl, HZZ.out⟩
                  · have HJ : Hid (n = a.toNat + 1) := Lib.hid (by omega)
                    have hlti : ¬ (n : Int) ≤ (a.toNat : Int) := by omega
                    have H4 : Hid (At wr (W.heap.size + 1) (nodeC 1 (add g a a) false nilS) 46) := Lib.hid (by have := H1.out; rw [HJ.out, raddTo_all] at this; exact this)
                    have hadv : j < q ∧ q ≤ s.size := by
                      have e1 := HRP.out.len
                      have e2 := HQ2.out.len
                      have e3 := HQ2.out.le
                      have e4 := HSH2.out
                      have e5 := HSH1.out
                      have e0 : ([] : List UInt8).length = 0 := rfl
                      simp only [List.length_cons] at e1 e2 e4 e5
                      omega
                    have HAD := Lib.hid hadv
                    clear hk han hnb hlt hadv
                    go_wp2_with fail
                    go_roundg (s.size + 1 - (q - i))
                    case measure =>
                      have e1 := HAD.out
                      have e2 := HK.out
                      have e3 := HIJ.out
                      omega
                    case rel => exact ⟨q, m, add g a a, _, rfl, by have := HAD.out; have := HIJ.out; omega, rfl, HQ2.out, by
                      have e1 := HM.out
                      have e4 := HSH2.out
                      have e5 := HSH1.out
                      simp only [List.length_cons] at e1 e4 e5 ⊢
                      omega, by rw [decide_eq_false (by have := HAD.out; have := HIJ.out; omega)]; exact HLA.out, H4.out, H2.out, H3.out⟩
              · have hqlt2 := HQN.out.lt
                have hgy : s[q + 1]'hqlt2 = y := HQN.out.get
                have u1 : (q : Int) + 1 < (s.size : Int) := by omega
                by_cases ex : x = 45
                · subst ex
                  have ey : y = 93 := by
                    simp [isRange] at hr1
                    exact hr1
                  subst ey
                  clear hr1
                  go_wp2_with fail
                  obtain ⟨wo, hwo⟩ : ∃ wo : World, wo = wr := ⟨_, rfl⟩
                  subst hwo
                  go_loopg [15] (257 - a.toNat) (fun k iv wr => ∃ n : Nat, k = 257 - n ∧ a.toNat ≤ n ∧ n ≤ a.toNat + 1 ∧ iv = .int .i64 n ∧ At wr (W.heap.size + 1) (nodeC 1 (raddTo g a.toNat n) false nilS) 46 ∧ At wr W.heap.size (nodeC 0 noF false nilS) 46 ∧ Below W.heap.size W wr)
                  case atStart => exact ⟨a.toNat, rfl, Nat.le_refl _, by have := HAB.out; omega, rfl, by rw [raddTo_zero]; exact H1.out, H2.out, H3.out⟩
                  case round =>
                    obtain ⟨n, hk, han, hnb, rfl, h1, h2, h3⟩ := hrel
                    clear H1 H2 H3
                    have H1 := Lib.hid h1
                    have H2 := Lib.hid h2
                    have H3 := Lib.hid h3
                    clear h1 h2 h3
                    have hnl : (n : Int) ≤ 256 := by have := a.toNat_lt; omega
                    by_cases hlt : n ≤ a.toNat
                    · have hlti : (n : Int) ≤ (a.toNat : Int) := by omega
                      have hn256 : n < 256 := by have := a.toNat_lt; omega
                      have hn256i : (n : Int) < 256 := by omega
                      have hmo : 257 - (n + 1) < gk := by omega
                      have HMO := Lib.hid hmo
                      have HAN := Lib.hid han
                      have HLT := Lib.hid hlt
                      have d0 : wr.cell? ⟨W.heap.size + 1, 1 + n, none⟩ = some (.bool (raddTo g a.toNat n (UInt8.ofNat n))) := by rw [H1.out.cell, nodeC_bit _ _ _ _ _ hn256]
                      have d1 : wr.frozen? ⟨W.heap.size + 1, 1 + n, none⟩ = false := H1.out.free _
                      have HZZ : Hid (At (wr.setCell ⟨W.heap.size + 1, 1 + n, none⟩ (.bool true)) (W.heap.size + 1) (nodeC 1 (raddTo g a.toNat (n + 1)) false nilS) 46 ∧ At (wr.setCell ⟨W.heap.size + 1, 1 + n, none⟩ (.bool true)) W.heap.size (nodeC 0 noF false nilS) 46 ∧ Below W.heap.size W (wr.setCell ⟨W.heap.size + 1, 1 + n, none⟩ (.bool true))) := Lib.hid (by
                        refine ⟨?_, H2.out.other _ (by show W.heap.size ≠ W.heap.size + 1; omega), H3.out.setCell (by show W.heap.size ≤ W.heap.size + 1; omega) _⟩
                        rw [← nodeC_setBit 1 (raddTo g a.toNat n) (raddTo g a.toNat (n + 1)) false nilS n _ hn256 (fun x => raddTo_set g a.toNat n han x)]
                        exact H1.out.set _ _)
                      clear hmo hk han hnb hlt
                      generalize raddTo g a.toNat n (UInt8.ofNat n) = old at *
                      go_wp2_with fail
                      go_roundg (257 - (n + 1))
                      case measure => exact HMO.out
                      case rel => exact ⟨n + 1, rfl, by have := HAN.out; omega, by have := HLT.out; omega, rfl, HZZ.out⟩
                    · have HJ : Hid (n = a.toNat + 1) := Lib.hid (by omega)
                      have hlti : ¬ (n : Int) ≤ (a.toNat : Int) := by omega
                      have H4 : Hid (At wr (W.heap.size + 1) (nodeC 1 (add g a a) false nilS) 46) := Lib.hid (by have := H1.out; rw [HJ.out, raddTo_all] at this; exact this)
                      have hadv : j < q ∧ q ≤ s.size := by
                        have e1 := HRP.out.len
                        have e2 := HQ2.out.len
                        have e3 := HQ2.out.le
                        have e4 := HSH2.out
                        have e5 := HSH1.out
                        have e0 : ([] : List UInt8).length = 0 := rfl
                        simp only [List.length_cons] at e1 e2 e4 e5
                        omega
                      have HAD := Lib.hid hadv
                      clear hk han hnb hlt hadv
                      go_wp2_with fail
                      go_roundg (s.size + 1 - (q - i))
                      case measure =>
                        have e1 := HAD.out
                        have e2 := HK.out
                        have e3 := HIJ.out
                        omega
                      case rel => exact ⟨q, m, add g a a, _, rfl, by have := HAD.out; have := HIJ.out; omega, rfl, HQ2.out, by
                        have e1 := HM.out
                        have e4 := HSH2.out
                        have e5 := HSH1.out
                        simp only [List.length_cons] at e1 e4 e5 ⊢
                        omega, by rw [decide_eq_false (by have := HAD.out; have := HIJ.out; omega)]; exact HLA.out, H4.out, H2.out, H3.out⟩
                · have u2 : ((x.toNat : Int) == 45) = false := u8_ne ex
                  clear hr1 ex
                  go_wp2_with fail
                  obtain ⟨wo, hwo⟩ : ∃ wo : World, wo = wr := ⟨_, rfl⟩
                  subst hwo
                  go_loopg [15] (257 - a.toNat) (fun k iv wr => ∃ n : Nat, k = 257 - n ∧ a.toNat ≤ n ∧ n ≤ a.toNat + 1 ∧ iv = .int .i64 n ∧ At wr (W.heap.size + 1) (nodeC 1 (raddTo g a.toNat n) false nilS) 46 ∧ At wr W.heap.size (nodeC 0 noF false nilS) 46 ∧ Below W.heap.size W wr)
                  case atStart => exact ⟨a.toNat, rfl, Nat.le_refl _, by have := HAB.out; omega, rfl, by rw [raddTo_zero]; exact H1.out, H2.out, H3.out⟩
                  case round =>
                    obtain ⟨n, hk, han, hnb, rfl, h1, h2, h3⟩ := hrel
                    clear H1 H2 H3
                    have H1 := Lib.hid h1
                    have H2 := Lib.hid h2
                    have H3 := Lib.hid h3
                    clear h1 h2 h3
                    have hnl : (n : Int) ≤ 256 := by have := a.toNat_lt; omega
                    by_cases hlt : n ≤ a.toNat
                    · have hlti : (n : Int) ≤ (a.toNat : Int) := by omega
                      have hn256 : n < 256 := by have := a.toNat_lt; omega
                      have hn256i : (n : Int) < 256 := by omega
                      have hmo : 257 - (n + 1) < gk := by omega
                      have HMO := Lib.hid hmo
                      have HAN := Lib.hid han
                      have HLT := Lib.hid hlt
                      have d0 : wr.cell? ⟨W.heap.size + 1, 1 + n, none⟩ = some (.bool (raddTo g a.toNat n (UInt8.ofNat n))) := by rw [H1.out.cell, nodeC_bit _ _ _ _ _ hn256]
                      have d1 : wr.frozen? ⟨W.heap.size + 1, 1 + n, none⟩ = false := H1.out.free _
                      have HZZ : Hid (At (wr.setCell ⟨W.heap.size + 1, 1 + n, none⟩ (.bool true)) (W.heap.size + 1) (nodeC 1 (raddTo g a.toNat (n + 1)) false nilS) 46 ∧ At (wr.setCell ⟨W.heap.size + 1, 1 + n, none⟩ (.bool true)) W.heap.size (nodeC 0 noF false nilS) 46 ∧ Below W.heap.size W (wr.setCell ⟨W.heap.size + 1, 1 + n, none⟩ (.bool true))) := Lib.hid (by
                        refine ⟨?_, H2.out.other _ (by show W.heap.size ≠ W.heap.size + 1; omega), H3.out.setCell (by show W.heap.size ≤ W.heap.size + 1; omega) _⟩
                        rw [← nodeC_setBit 1 (raddTo g a.toNat n) (raddTo g a.toNat (n + 1)) false nilS n _ hn256 (fun x => raddTo_set g a.toNat n han x)]
                        exact H1.out.set _ _)
                      clear hmo hk han hnb hlt
                      generalize raddTo g a.toNat n (UInt8.ofNat n) = old at *
                      go_wp2_with fail
                      go_roundg (257 - (n + 1))
                      case measure => exact HMO.out
                      case rel => exact ⟨n + 1, rfl, by have := HAN.out; omega, by have := HLT.out; omega, rfl, HZZ.out⟩
                    · have HJ : Hid (n = a.toNat + 1) := Lib.hid (by omega)
                      have hlti : ¬ (n : Int) ≤ (a.toNat : Int) := by omega
                      have H4 : Hid (At wr (W.heap.size + 1) (nodeC 1 (add g a a) false nilS) 46) := Lib.hid (by have := H1.out; rw [HJ.out, raddTo_all] at this; exact this)
                      have hadv : j < q ∧ q ≤ s.size := by
                        have e1 := HRP.out.len
                        have e2 := HQ2.out.len
                        have e3 := HQ2.out.le
                        have e4 := HSH2.out
                        have e5 := HSH1.out
                        have e0 : ([] : List UInt8).length = 0 := rfl
                        simp only [List.length_cons] at e1 e2 e4 e5
                        omega
                      have HAD := Lib.hid hadv
                      clear hk han hnb hlt hadv
                      go_wp2_with fail
                      go_roundg (s.size + 1 - (q - i))
                      case measure =>
                        have e1 := HAD.out
                        have e2 := HK.out
                        have e3 := HIJ.out
                        omega
                      case rel => exact ⟨q, m, add g a a, _, rfl, by have := HAD.out; have := HIJ.out; omega, rfl, HQ2.out, by
                        have e1 := HM.out
                        have e4 := HSH2.out
                        have e5 := HSH1.out
                        simp only [List.length_cons] at e1 e4 e5 ⊢
                        omega, by rw [decide_eq_false (by have := HAD.out; have := HIJ.out; omega)]; exact HLA.out, H4.out, H2.out, H3.out⟩
          · obtain ⟨y, r2, rfl, hy⟩ : ∃ y r2, r1 = 45 :: y :: r2 ∧ y ≠ 93 := by
              rcases r1 with _ | ⟨x, _ | ⟨y, r2⟩⟩
              · simp [isRange] at hr1
              · simp [isRange] at hr1
              · simp [isRange] at hr1
                exact ⟨y, r2, by rw [hr1.1], hr1.2⟩
            have hqlt := hq.lt
            have hgx : s[q]'hqlt = 45 := hq.get
            have HQN := Lib.hid hq.next
            have hqlt2 := HQN.out.lt
            have hgy : s[q + 1]'hqlt2 = y := HQN.out.get
            have u1 : (q : Int) + 1 < (s.size : Int) := by omega
            have u2 : ((y.toNat : Int) != 93) = true := by rw [bne_iff_ne]; exact beq_eq_false_iff_ne.1 (u8_ne hy)
            have HRE4 : Hid (R = brRes inv (((item (y :: r2)).bind fun x => if x.1.toNat < a.toNat then none else some x).bind fun y => bnext false m (add g a y.1) y.2)) := Lib.hid (by rw [HRE3.out, last_range hy])
            clear hq hr1 hy HRE3
            have hit := HIT.out (q + 1) (y :: r2)
            have HSH4 := Lib.hid (fun b r3 (h : item (y :: r2) = some (b, r3)) => item_short h)
            rcases hi : item (y :: r2) with _ | ⟨b, r3⟩
            · have HNO : Hid (R = none) := Lib.hid (by rw [HRE4.out, hi]; rfl)
              have HIC2 : Hid (∀ w, Calls Try.prog 68 #[.string s, .int .i64 ((q : Int) + 1)] w fun e w' => w = w' ∧ ∃ (b : UInt8) (q : Nat), q ≤ s.size ∧ e = .returned (.tuple #[.int .u8 b.toNat, .int .i64 q, .bool false])) := Lib.hid (fun w => (hit w HQN.out).mono fun e w' h => by unfold ItemPost at h; rw [hi] at h; exact h)
              clear hi hit HRE4 HSH4
              go_wp2_with fail
              refine (HIC2.out _).mono ?_
              rintro e w' ⟨rfl, b, q2, _, rfl⟩
              go_wp2_with (first | (refine wpList_load_at rfl 46 (.tmp 9) rfl (W.heap.size + 1) rfl 46 _ _ H1.out Try.underlying46 rfl (size_nodeC _ _ _ _) ?_) | (refine wpList_store_at rfl 46 (.tmp 6) (.tmp 73) rfl W.heap.size _ rfl rfl 46 _ H2.out (size_nodeC _ _ _ _) (by rw [nodeC_size, nodeC_size]) (nodeC_one _ _ _ _ rfl) ?_))
              intro w3 hw3
              have H6 : Hid (At w3 W.heap.size (nodeC 1 g false nilS) 46) := Lib.hid (by rw [hw3.out]; exact H2.out.row)
              have H7 : Hid (Below W.heap.size W w3) := Lib.hid (by rw [hw3.out]; exact below_row H3.out _ _ (Nat.le_refl _))
              clear hw3
              go_wp2_with fail
              refine bodyPost_ret (results_node3 rfl _ _ W.heap.size 46 _ _ rfl H6.out Try.underlying46 rfl (size_nodeC _ _ _ _)) rfl ?_
              exact RUPost.no _ _ HNO.out H7.out (NV.node _ _ _ _ rfl)
            · have HIC2 : Hid (∀ w, Calls Try.prog 68 #[.string s, .int .i64 ((q : Int) + 1)] w fun e w' => w = w' ∧ ∃ q2, RP s q2 r3 ∧ e = .returned (.tuple #[.int .u8 b.toNat, .int .i64 (q2 : Nat), .bool true])) := Lib.hid (fun w => (hit w HQN.out).mono fun e w' h => by unfold ItemPost at h; rw [hi] at h; exact h)
              have HSH2 : Hid (r3.length ≤ (45 :: y :: r2).length) := Lib.hid (by have := HSH4.out b r3 hi; simp only [List.length_cons] at this ⊢; omega)
              have hbl := b.toNat_lt
              by_cases hba : b.toNat < a.toNat
              · have HNO : Hid (R = none) := Lib.hid (by rw [HRE4.out, hi]; simp only [Option.bind_some]; rw [if_pos hba]; rfl)
                have hbai : (b.toNat : Int) < (a.toNat : Int) := by omega
                clear hi hit HRE4 HSH4 hba
                go_wp2_with fail
                refine (HIC2.out _).mono ?_
                rintro e w' ⟨rfl, q2, _, rfl⟩
                go_wp2_with (first | (refine wpList_load_at rfl 46 (.tmp 9) rfl (W.heap.size + 1) rfl 46 _ _ H1.out Try.underlying46 rfl (size_nodeC _ _ _ _) ?_) | (refine wpList_store_at rfl 46 (.tmp 6) (.tmp 73) rfl W.heap.size _ rfl rfl 46 _ H2.out (size_nodeC _ _ _ _) (by rw [nodeC_size, nodeC_size]) (nodeC_one _ _ _ _ rfl) ?_))
                intro w3 hw3
                have H6 : Hid (At w3 W.heap.size (nodeC 1 g false nilS) 46) := Lib.hid (by rw [hw3.out]; exact H2.out.row)
                have H7 : Hid (Below W.heap.size W w3) := Lib.hid (by rw [hw3.out]; exact below_row H3.out _ _ (Nat.le_refl _))
                clear hw3
                go_wp2_with fail
                refine bodyPost_ret (results_node3 rfl _ _ W.heap.size 46 _ _ rfl H6.out Try.underlying46 rfl (size_nodeC _ _ _ _)) rfl ?_
                exact RUPost.no _ _ HNO.out H7.out (NV.node _ _ _ _ rfl)
              · have HLA : Hid (R = brRes inv (bnext false m (add g a b) r3)) := Lib.hid (by rw [HRE4.out, hi]; simp only [Option.bind_some]; rw [if_neg hba]; rfl)
                have hbai : ¬ (b.toNat : Int) < (a.toNat : Int) := by omega
                have HAB : Hid (a.toNat ≤ b.toNat) := Lib.hid (by omega)
                clear hi hit HRE4 HSH4 hba
                go_wp2_with fail
                refine (HIC2.out _).mono ?_
                rintro e w' ⟨rfl, q2, hq2, rfl⟩
                have HQ2 := Lib.hid hq2
                have hq2l : (q2 : Int) ≤ 1000 := by have := hq2.le; omega
                clear hq2
                go_wp2_with fail
                obtain ⟨wo, hwo⟩ : ∃ wo : World, wo = wr := ⟨_, rfl⟩
                subst hwo
                go_loopg [15] (257 - a.toNat) (fun k iv wr => ∃ n : Nat, k = 257 - n ∧ a.toNat ≤ n ∧ n ≤ b.toNat + 1 ∧ iv = .int .i64 n ∧ At wr (W.heap.size + 1) (nodeC 1 (raddTo g a.toNat n) false nilS) 46 ∧ At wr W.heap.size (nodeC 0 noF false nilS) 46 ∧ Below W.heap.size W wr)
                case atStart => exact ⟨a.toNat, rfl, Nat.le_refl _, by have := HAB.out; omega, rfl, by rw [raddTo_zero]; exact H1.out, H2.out, H3.out⟩
                case round =>
                  obtain ⟨n, hk, han, hnb, rfl, h1, h2, h3⟩ := hrel
                  clear H1 H2 H3
                  have H1 := Lib.hid h1
                  have H2 := Lib.hid h2
                  have H3 := Lib.hid h3
                  clear h1 h2 h3
                  have hnl : (n : Int) ≤ 256 := by have := b.toNat_lt; omega
                  by_cases hlt : n ≤ b.toNat
                  · have hlti : (n : Int) ≤ (b.toNat : Int) := by omega
                    have hn256 : n < 256 := by have := b.toNat_lt; omega
                    have hn256i : (n : Int) < 256 := by omega
                    have hmo : 257 - (n + 1) < gk := by omega
                    have HMO := Lib.hid hmo
                    have HAN := Lib.hid han
                    have HLT := Lib.hid hlt
                    have d0 : wr.cell? ⟨W.heap.size + 1, 1 + n, none⟩ = some (.bool (raddTo g a.toNat n (UInt8.ofNat n))) := by rw [H1.out.cell, nodeC_bit _ _ _ _ _ hn256]
                    have d1 : wr.frozen? ⟨W.heap.size + 1, 1 + n, none⟩ = false := H1.out.free _
                    have HZZ : Hid (At (wr.setCell ⟨W.heap.size + 1, 1 + n, none⟩ (.bool true)) (W.heap.size + 1) (nodeC 1 (raddTo g a.toNat (n + 1)) false nilS) 46 ∧ At (wr.setCell ⟨W.heap.size + 1, 1 + n, none⟩ (.bool true)) W.heap.size (nodeC 0 noF false nilS) 46 ∧ Below W.heap.size W (wr.setCell ⟨W.heap.size + 1, 1 + n, none⟩ (.bool true))) := Lib.hid (by
                      refine ⟨?_, H2.out.other _ (by show W.heap.size ≠ W.heap.size + 1; omega), H3.out.setCell (by show W.heap.size ≤ W.heap.size + 1; omega) _⟩
                      rw [← nodeC_setBit 1 (raddTo g a.toNat n) (raddTo g a.toNat (n + 1)) false nilS n _ hn256 (fun x => raddTo_set g a.toNat n han x)]
                      exact H1.out.set _ _)
                    clear hmo hk han hnb hlt
                    generalize raddTo g a.toNat n (UInt8.ofNat n) = old at *
                    go_wp2_with fail
                    go_roundg (257 - (n + 1))
                    case measure => exact HMO.out
                    case rel => exact ⟨n + 1, rfl, by have := HAN.out; omega, by have := HLT.out; omega, rfl, HZZ.out⟩
                  · have HJ : Hid (n = b.toNat + 1) := Lib.hid (by omega)
                    have hlti : ¬ (n : Int) ≤ (b.toNat : Int) := by omega
                    have H4 : Hid (At wr (W.heap.size + 1) (nodeC 1 (add g a b) false nilS) 46) := Lib.hid (by have := H1.out; rw [HJ.out, raddTo_all] at this; exact this)
                    have hadv : j < q2 ∧ q2 ≤ s.size := by
                      have e1 := HRP.out.len
                      have e2 := HQ2.out.len
                      have e3 := HQ2.out.le
                      have e4 := HSH2.out
                      have e5 := HSH1.out
                      have e0 : ([] : List UInt8).length = 0 := rfl
                      simp only [List.length_cons] at e1 e2 e4 e5
                      omega
                    have HAD := Lib.hid hadv
                    clear hk han hnb hlt hadv
                    go_wp2_with fail
                    go_roundg (s.size + 1 - (q2 - i))
                    case measure =>
                      have e1 := HAD.out
                      have e2 := HK.out
                      have e3 := HIJ.out
                      omega
                    case rel => exact ⟨q2, m, add g a b, _, rfl, by have := HAD.out; have := HIJ.out; omega, rfl, HQ2.out, by
                      have e1 := HM.out
                      have e4 := HSH2.out
                      have e5 := HSH1.out
                      simp only [List.length_cons] at e1 e4 e5 ⊢
                      omega, by rw [decide_eq_false (by have := HAD.out; have := HIJ.out; omega)]; exact HLA.out, H4.out, H2.out, H3.out⟩
end Go.Proofs.Ytheblleadjbndaa

namespace Go.Proofs.Ytheblleadjbndaa
open Go.RowKit Rx
/-- A node with parts that is handed back. -/
def RepPost (k : Int) (xs : List (Array Value)) (W : World) (e : Ending) (w' : World) : Prop := Below W.heap.size W w' ∧ ∃ sv, e = .returned (.agg (nodeC k noF false sv)) ∧ RRow (Fresh W w') w' sv xs
theorem built3 (k : Int) (v : Value) : (Try.zeroCells46.setIfInBounds 0 (.int .i64 k)).setIfInBounds 258 v = nodeC k noF false v := by
  rw [zero_node, nodeC_setKind, nodeC_setArgs]
theorem built4 : Try.zeroCells46.setIfInBounds 0 (.int .i64 2) = nodeC 2 noF false nilS := by rw [zero_node, nodeC_setKind]
theorem flat_size {xs : List (Array Value)} (h : ∀ x ∈ xs, NV x) : (flat xs).toArray.size = xs.length * 259 := by rw [List.size_toArray, flat_len h]
/-- A row that a literal makes. -/
theorem rrow_lit {W w : World} {xs : List (Array Value)} (hW : W.heap.size ≤ w.heap.size) (h : ∀ x ∈ xs, NV x) (hl : xs.length ≤ 1000) (w' : World) (hs : ∀ k, k = w.heap.size → w'.heap[k]? = (w.alloc (.cells (flat xs).toArray 46)).heap[k]?) (hlt : w.heap.size < w'.heap.size) :
    RRow (Fresh W w') w' (.slice (some ⟨w.heap.size, 0, none⟩) xs.length xs.length) xs := by
  have h1 := World.ownsRow_lit (base := 0) (e := 46) (size := 259) w (flat xs).toArray xs.length (Nat.zero_le _) (by unfold maxLen; omega) (flat_size h)
  refine ⟨?_, h, fun g hg => ?_⟩
  · refine owns_same (S := fun k => k = w.heap.size) h1 (fun g hg => ?_) (fun k hk => hs k hk)
    injection hg with hg; exact hg.symm
  · injection hg with hg
    subst hg
    exact ⟨hW, hlt⟩

set_option maxRecDepth 100000 in
set_option maxHeartbeats 1000000 in
theorem rrep_star (W : World) (x : Array Value) (hx : NV x) : Calls Try.prog 54 #[.agg x, .int .u8 42] W (RepPost 4 [x] W) := by
  have H1 : Hid (At ((W.alloc (.cells x 46)).alloc (.cells Try.zeroCells46 46)) W.heap.size x 46) := Lib.hid ((At.new W _ _).alloc _)
  have HR : Hid (At ((W.alloc (.cells x 46)).alloc (.cells Try.zeroCells46 46)) (W.heap.size + 1) (nodeC 0 noF false nilS) 46) := Lib.hid (by rw [← zero_node]; exact at_two W _ _ _ _)
  have HB : Hid (Below W.heap.size W ((W.alloc (.cells x 46)).alloc (.cells Try.zeroCells46 46))) := Lib.hid (((Below.refl _ _).alloc (Nat.le_refl _) _).alloc (by show W.heap.size ≤ (W.heap.push _).size; simp) _)
  have HSI : Hid (((W.alloc (.cells x 46)).alloc (.cells Try.zeroCells46 46)).heap.size = W.heap.size + 2) := Lib.hid (two_lt W _ _)
  have HI := Lib.hid hx.info
  have HX := Lib.hid hx
  have HNV : Hid (∀ y ∈ ([x] : List (Array Value)), NV y) := Lib.hid (by intro y hy; rw [List.mem_singleton] at hy; subst hy; exact HX.out)
  clear hx
  go_enter Try.func54, Try.ntmps54
  go_upto_region 2 with fail
  generalize ((W.alloc (.cells x 46)).alloc (.cells Try.zeroCells46 46)) = w0 at *
  go_wp2_with (first | (refine wpList_load_at rfl 46 (.tmp 2) rfl W.heap.size rfl 46 x _ H1.out Try.underlying46 rfl HI.out ?_) | (refine wpList_nodes rfl _ _ rfl [x] HNV.out rfl (by decide) (by decide) ?hp ?_))
  intro w1 hw1
  have hs1 : w1.heap.size = W.heap.size + 3 := by rw [hw1.out]; show (w0.heap.push _).size = _; rw [Array.size_push, HSI.out]
  have HR1 : Hid (At w1 (W.heap.size + 1) (nodeC 0 noF false nilS) 46) := Lib.hid (by rw [hw1.out]; exact HR.out.alloc _)
  have HB1 : Hid (Below W.heap.size W w1) := Lib.hid (by rw [hw1.out]; exact HB.out.alloc HB.out.size _)
  have HW1 := hw1
  have HS1 := Lib.hid hs1
  clear hw1 hs1
  rw [HSI.out]
  go_wp2_with (refine wpList_store_at rfl 46 (.tmp 4) (.tmp 9) rfl (W.heap.size + 1) _ rfl rfl 46 _ HR1.out (by rw [built3]; exact size_nodeC _ _ _ _) (by rw [built3, nodeC_size, nodeC_size]) (by rw [built3]; exact nodeC_one _ _ _ _ rfl) ?_)
  intro w2 hw2
  have H6 : Hid (At w2 (W.heap.size + 1) (nodeC 4 noF false (.slice (some ⟨W.heap.size + 2, 0, none⟩) 1 1)) 46) := Lib.hid (by rw [hw2.out, built3]; exact HR1.out.row)
  have H7 : Hid (Below W.heap.size W w2) := Lib.hid (by rw [hw2.out]; exact below_row HB1.out _ _ (by omega))
  have hrow := rrow_lit (W := W) (w := w0) (xs := [x]) (by rw [HSI.out]; omega) HNV.out (by simp) w2 (fun k hk => by
    subst hk
    rw [hw2.out, setRow_other w1 _ _ _ (by rw [HSI.out]; omega), HW1.out]) (by rw [hw2.out, size_setRow, HS1.out, HSI.out]; omega)
  rw [HSI.out] at hrow
  have HROW := Lib.hid hrow
  clear hw2 hrow HW1
  go_wp2_with fail
  refine bodyPost_ret (v := .agg (nodeC 4 noF false (.slice (some ⟨W.heap.size + 2, 0, none⟩) 1 1))) (results_cell_row rfl _ _ (W.heap.size + 1) 46 _ (0, 0) _ rfl H6.out.out Try.underlying46 rfl (size_nodeC _ _ _ _)) rfl ⟨H7.out, _, rfl, HROW.out⟩

set_option maxRecDepth 100000 in
set_option maxHeartbeats 1000000 in
theorem rrep_plus (W : World) (x : Array Value) (hx : NV x) : Calls Try.prog 54 #[.agg x, .int .u8 43] W (RepPost 5 [x] W) := by
  have H1 : Hid (At ((W.alloc (.cells x 46)).alloc (.cells Try.zeroCells46 46)) W.heap.size x 46) := Lib.hid ((At.new W _ _).alloc _)
  have HR : Hid (At ((W.alloc (.cells x 46)).alloc (.cells Try.zeroCells46 46)) (W.heap.size + 1) (nodeC 0 noF false nilS) 46) := Lib.hid (by rw [← zero_node]; exact at_two W _ _ _ _)
  have HB : Hid (Below W.heap.size W ((W.alloc (.cells x 46)).alloc (.cells Try.zeroCells46 46))) := Lib.hid (((Below.refl _ _).alloc (Nat.le_refl _) _).alloc (by show W.heap.size ≤ (W.heap.push _).size; simp) _)
  have HSI : Hid (((W.alloc (.cells x 46)).alloc (.cells Try.zeroCells46 46)).heap.size = W.heap.size + 2) := Lib.hid (two_lt W _ _)
  have HI := Lib.hid hx.info
  have HX := Lib.hid hx
  have HNV : Hid (∀ y ∈ ([x] : List (Array Value)), NV y) := Lib.hid (by intro y hy; rw [List.mem_singleton] at hy; subst hy; exact HX.out)
  clear hx
  go_enter Try.func54, Try.ntmps54
  go_upto_region 4 with fail
  generalize ((W.alloc (.cells x 46)).alloc (.cells Try.zeroCells46 46)) = w0 at *
  go_wp2_with (first | (refine wpList_load_at rfl 46 (.tmp 2) rfl W.heap.size rfl 46 x _ H1.out Try.underlying46 rfl HI.out ?_) | (refine wpList_nodes rfl _ _ rfl [x] HNV.out rfl (by decide) (by decide) ?hp ?_))
  intro w1 hw1
  have hs1 : w1.heap.size = W.heap.size + 3 := by rw [hw1.out]; show (w0.heap.push _).size = _; rw [Array.size_push, HSI.out]
  have HR1 : Hid (At w1 (W.heap.size + 1) (nodeC 0 noF false nilS) 46) := Lib.hid (by rw [hw1.out]; exact HR.out.alloc _)
  have HB1 : Hid (Below W.heap.size W w1) := Lib.hid (by rw [hw1.out]; exact HB.out.alloc HB.out.size _)
  have HW1 := hw1
  have HS1 := Lib.hid hs1
  clear hw1 hs1
  rw [HSI.out]
  go_wp2_with (refine wpList_store_at rfl 46 (.tmp 4) (.tmp 14) rfl (W.heap.size + 1) _ rfl rfl 46 _ HR1.out (by rw [built3]; exact size_nodeC _ _ _ _) (by rw [built3, nodeC_size, nodeC_size]) (by rw [built3]; exact nodeC_one _ _ _ _ rfl) ?_)
  intro w2 hw2
  have H6 : Hid (At w2 (W.heap.size + 1) (nodeC 5 noF false (.slice (some ⟨W.heap.size + 2, 0, none⟩) 1 1)) 46) := Lib.hid (by rw [hw2.out, built3]; exact HR1.out.row)
  have H7 : Hid (Below W.heap.size W w2) := Lib.hid (by rw [hw2.out]; exact below_row HB1.out _ _ (by omega))
  have hrow := rrow_lit (W := W) (w := w0) (xs := [x]) (by rw [HSI.out]; omega) HNV.out (by simp) w2 (fun k hk => by
    subst hk
    rw [hw2.out, setRow_other w1 _ _ _ (by rw [HSI.out]; omega), HW1.out]) (by rw [hw2.out, size_setRow, HS1.out, HSI.out]; omega)
  rw [HSI.out] at hrow
  have HROW := Lib.hid hrow
  clear hw2 hrow HW1
  go_wp2_with fail
  refine bodyPost_ret (v := .agg (nodeC 5 noF false (.slice (some ⟨W.heap.size + 2, 0, none⟩) 1 1))) (results_cell_row rfl _ _ (W.heap.size + 1) 46 _ (0, 0) _ rfl H6.out.out Try.underlying46 rfl (size_nodeC _ _ _ _)) rfl ⟨H7.out, _, rfl, HROW.out⟩

set_option maxRecDepth 100000 in
set_option maxHeartbeats 1000000 in
theorem rrep_opt (W : World) (x : Array Value) (hx : NV x) : Calls Try.prog 54 #[.agg x, .int .u8 63] W (RepPost 3 [nodeC 2 noF false nilS, x] W) := by
  have H1 : Hid (At ((W.alloc (.cells x 46)).alloc (.cells Try.zeroCells46 46)) W.heap.size x 46) := Lib.hid ((At.new W _ _).alloc _)
  have HR : Hid (At ((W.alloc (.cells x 46)).alloc (.cells Try.zeroCells46 46)) (W.heap.size + 1) (nodeC 0 noF false nilS) 46) := Lib.hid (by rw [← zero_node]; exact at_two W _ _ _ _)
  have HB : Hid (Below W.heap.size W ((W.alloc (.cells x 46)).alloc (.cells Try.zeroCells46 46))) := Lib.hid (((Below.refl _ _).alloc (Nat.le_refl _) _).alloc (by show W.heap.size ≤ (W.heap.push _).size; simp) _)
  have HSI : Hid (((W.alloc (.cells x 46)).alloc (.cells Try.zeroCells46 46)).heap.size = W.heap.size + 2) := Lib.hid (two_lt W _ _)
  have HI := Lib.hid hx.info
  have HX := Lib.hid hx
  have HNV : Hid (∀ y ∈ ([nodeC 2 noF false nilS, x] : List (Array Value)), NV y) := Lib.hid (by intro y hy; simp only [List.mem_cons, List.not_mem_nil, or_false] at hy; rcases hy with rfl | rfl; exact NV.node _ _ _ _ rfl; exact HX.out)
  clear hx
  go_enter Try.func54, Try.ntmps54
  go_upto_region 5 with fail
  generalize ((W.alloc (.cells x 46)).alloc (.cells Try.zeroCells46 46)) = w0 at *
  go_wp2_with (first | (refine wpList_load_at rfl 46 (.tmp 2) rfl W.heap.size rfl 46 x _ H1.out Try.underlying46 rfl HI.out ?_) | (refine wpList_nodes rfl _ _ rfl [nodeC 2 noF false nilS, x] HNV.out rfl (by decide) (by decide) ?hp ?_))
  case hp => exact built4
  intro w1 hw1
  have hs1 : w1.heap.size = W.heap.size + 3 := by rw [hw1.out]; show (w0.heap.push _).size = _; rw [Array.size_push, HSI.out]
  have HR1 : Hid (At w1 (W.heap.size + 1) (nodeC 0 noF false nilS) 46) := Lib.hid (by rw [hw1.out]; exact HR.out.alloc _)
  have HB1 : Hid (Below W.heap.size W w1) := Lib.hid (by rw [hw1.out]; exact HB.out.alloc HB.out.size _)
  have HW1 := hw1
  have HS1 := Lib.hid hs1
  clear hw1 hs1
  rw [HSI.out]
  go_wp2_with (refine wpList_store_at rfl 46 (.tmp 4) (.tmp 18) rfl (W.heap.size + 1) _ rfl rfl 46 _ HR1.out (by rw [built3]; exact size_nodeC _ _ _ _) (by rw [built3, nodeC_size, nodeC_size]) (by rw [built3]; exact nodeC_one _ _ _ _ rfl) ?_)
  intro w2 hw2
  have H6 : Hid (At w2 (W.heap.size + 1) (nodeC 3 noF false (.slice (some ⟨W.heap.size + 2, 0, none⟩) 2 2)) 46) := Lib.hid (by rw [hw2.out, built3]; exact HR1.out.row)
  have H7 : Hid (Below W.heap.size W w2) := Lib.hid (by rw [hw2.out]; exact below_row HB1.out _ _ (by omega))
  have hrow := rrow_lit (W := W) (w := w0) (xs := [nodeC 2 noF false nilS, x]) (by rw [HSI.out]; omega) HNV.out (by simp) w2 (fun k hk => by
    subst hk
    rw [hw2.out, setRow_other w1 _ _ _ (by rw [HSI.out]; omega), HW1.out]) (by rw [hw2.out, size_setRow, HS1.out, HSI.out]; omega)
  rw [HSI.out] at hrow
  have HROW := Lib.hid hrow
  clear hw2 hrow HW1
  go_wp2_with fail
  refine bodyPost_ret (v := .agg (nodeC 3 noF false (.slice (some ⟨W.heap.size + 2, 0, none⟩) 2 2))) (results_cell_row rfl _ _ (W.heap.size + 1) 46 _ (0, 0) _ rfl H6.out.out Try.underlying46 rfl (size_nodeC _ _ _ _)) rfl ⟨H7.out, _, rfl, HROW.out⟩
end Go.Proofs.Ytheblleadjbndaa

namespace Go.Proofs.Ytheblleadjbndaa
open Go.RowKit Rx
abbrev CF := List St → Nat → Nat × List St
/-- What compile hands back. -/
def RCPost (W : World) (B : Nat) (X : Nat → Prop) (mv : Value) (r : Nat × List St) (e : Ending) (w' : World) : Prop := ∃ mv' xs', e = .returned (.tuple #[.int .i64 (r.1 : Nat), mv']) ∧ RM w' B X mv' r.2 xs' ∧ Grew W w' mv mv'
/-- The node x, read in W0, compiles as F, with z states at most. -/
structure RC (W0 : World) (B : Nat) (x : Array Value) (F : CF) (z : Nat) : Prop where
  len : ∀ M q, M.length ≤ (F M q).2.length ∧ (F M q).2.length ≤ M.length + z
  old : ∀ M q i, i < M.length → (F M q).2[i]? = M[i]?
  nv : NV x
  run : ∀ (W : World) (X : Nat → Prop) (mv : Value) (M : List St) (xs : List (Array Value)) (q : Nat), (∀ k, X k → k < W.heap.size) → (∀ k, k < B → W.heap[k]? = W0.heap[k]?) → B ≤ W.heap.size → RM W B X mv M xs → M.length + z ≤ 1000 → Calls Try.prog 42 #[.agg x, mv, .int .i64 q] W (RCPost W B X mv (F M q))
theorem RCPost.mk' {W w' : World} {B : Nat} {X : Nat → Prop} {mv mv' : Value} {r : Nat × List St} {xs' : List (Array Value)} {e : Ending} (he : e = .returned (.tuple #[.int .i64 (r.1 : Nat), mv'])) (h : RM w' B X mv' r.2 xs') (hg : Grew W w' mv mv') : RCPost W B X mv r e w' := ⟨mv', xs', he, h, hg⟩
theorem sv_news {x : Array Value} (h : SV x) : x.toList.length = 1 * 258 ∧ ∀ u ∈ x.toList, u.oneCell' = true := by
  refine ⟨by rw [Array.length_toList, h.size], fun u hu => ?_⟩
  exact (Array.all_eq_true_iff_forall_mem.1 h.one) u (by simpa using hu)
theorem state_one {wm w0 : World} {x : Array Value} (h : wm = w0.alloc (.cells (flat [x]).toArray 81)) : ∀ j u, x.toList[j]? = some u → wm.cell? ((⟨w0.heap.size, 0, none⟩ : Addr).add j) = some u := fun j u hj => by
  have e : (⟨w0.heap.size, 0, none⟩ : Addr).add j = ⟨w0.heap.size, j, none⟩ := by unfold Addr.add; split <;> simp_all
  rw [e, h, (At.new w0 _ _).cell]
  simpa [flat] using hj
theorem state_zs : (Value.agg Try.zeroCells81).cells.size = 258 := by show Try.zeroCells81.size = 258; rw [zero_state, stateC_size]
theorem len_states {n : Nat} (h : n ≤ 1001) : n + 1 ≤ maxLen ∧ (n + 1) * 288 ≤ 140737488355328 := by unfold maxLen; omega
theorem size_arr : (Try.prog.info? 43).map (·.size) = some 256 := by kernel_rfl
theorem int_lit (w : World) (q : Nat) : IRow (fun k => k = w.heap.size) (w.alloc (.cells #[.int .i64 q] 3)) (.slice (some ⟨w.heap.size, 0, none⟩) 1 1) [q] :=
  ⟨World.ownsRow_lit (base := 0) (e := 3) (size := 1) w #[.int .i64 q] 1 (Nat.zero_le _) (by unfold maxLen; omega) rfl, fun g hg => by injection hg with hg; exact hg.symm⟩
set_option maxRecDepth 100000 in
set_option maxHeartbeats 2000000 in
theorem rc_class (W0 : World) (B : Nat) (f : UInt8 → Bool) (sg : Bool) : RC W0 B (nodeC 1 f sg nilS) (fun M q => (M.length, M ++ [.rd f q])) 1 := by
  refine ⟨fun M q => by simp, fun M q i h => get_app h, NV.node _ _ _ _ rfl, ?_⟩
  intro W X mv M xs q hX _ hB hm hz
  obtain ⟨i0, hi, hz0, hz1, hz2⟩ := info_parts info_rstate
  have HI := Lib.hid hi
  have HZ0 := Lib.hid hz0
  have HZ1 := Lib.hid hz1
  have HZ2 := Lib.hid hz2
  have HZS := Lib.hid state_zs
  obtain ⟨ma, mn, mc, rfl⟩ := owns_slice hm.row
  obtain rfl : mn = xs.length := by
    rcases hm.row.2 with ⟨e, h0⟩ | ⟨g, cap, cur, e, _⟩
    · injection e with _ e _; omega
    · injection e with _ e _
  have HM := Lib.hid hm
  have HB := Lib.hid hB
  have HX := Lib.hid hX
  have HZL : Hid (xs.length ≤ 1000) := Lib.hid (by rw [hm.len]; omega)
  have HA : Hid (At (W.alloc (.cells (nodeC 1 f sg nilS) 46)) W.heap.size (nodeC 1 f sg nilS) 46) := Lib.hid (At.new W _ _)
  have d0 : (W.alloc (.cells (nodeC 1 f sg nilS) 46)).cell? ⟨W.heap.size, 0, none⟩ = some (.int .i64 1) := by rw [HA.out.cell, nodeC_kind]
  have HW1 : Hid (Below W.heap.size W (W.alloc (.cells (nodeC 1 f sg nilS) 46)) ∧ (W.alloc (.cells (nodeC 1 f sg nilS) 46)).heap.size = W.heap.size + 1) := Lib.hid ⟨(Below.refl _ _).alloc (Nat.le_refl _) _, by show (W.heap.push _).size = _; simp⟩
  clear hi hz0 hz1 hz2 hm hB hz hX
  go_enter Try.func42, Try.ntmps42
  go_upto_region 2 with fail
  generalize W.alloc (.cells (nodeC 1 f sg nilS) 46) = w0 at *
  go_wp2_with (first | (refine wpList_load_arr rfl 43 (.tmp 22) rfl W.heap.size 1 rfl (btab f 256) _ (fun j v hv => by rw [HA.out.cell]; exact nodeC_set _ _ _ _ j v hv) Try.underlying43 rfl (by rw [btab_size]; exact size_arr) ?_) | (refine wpList_built rfl _ rfl true f (.slice (some ⟨w0.heap.size, 0, none⟩) 1 1) rfl ?_ ?_) | (refine wpList_state rfl _ rfl (stateC true f (.slice (some ⟨w0.heap.size, 0, none⟩) 1 1)) ⟨stateC_size _ _ _, stateC_one _ _ _ rfl⟩ ?_ ?_))
  intro wm hwm
  have hwz : (w0.alloc (.cells #[.int .i64 q] 3)).heap.size = w0.heap.size + 1 := by show (w0.heap.push _).size = _; simp
  have hbm : Below W.heap.size W wm := by
    rw [hwm.out]
    exact (HW1.out.1.alloc HW1.out.1.size _).alloc (by rw [hwz, HW1.out.2]; omega) _
  have hwmz : wm.heap.size = w0.heap.size + 2 := by rw [hwm.out]; show ((w0.heap.push _).push _).size = _; simp
  have HNEWS : Hid (∀ j u, (stateC true f (.slice (some ⟨w0.heap.size, 0, none⟩) 1 1)).toList[j]? = some u → wm.cell? ((⟨w0.heap.size + 1, 0, none⟩ : Addr).add j) = some u) := Lib.hid (by have := state_one hwm.out; rwa [hwz] at this)
  have hsc : SC (fun k => W.heap.size ≤ k ∧ k < wm.heap.size) wm (.rd f q) (stateC true f (.slice (some ⟨w0.heap.size, 0, none⟩) 1 1)) :=
    ⟨_, rfl, (int_lit w0 q).same (fun k hk => by subst hk; rw [hwm.out, Below.heap_alloc _ _ _ (by rw [hwz]; omega)]) (fun k hk => by subst hk; rw [HW1.out.2, hwmz, HW1.out.2]; omega)⟩
  have HBM := Lib.hid hbm
  have HSC := Lib.hid hsc
  have HROW : Hid (wm.ownsRow 0 81 258 (.slice ma xs.length mc) xs.length (flat xs)) := Lib.hid (HM.out.keep hbm).row
  clear hwm hwz hbm hsc hwmz d0 HA
  go_wp2_with (at_builtin; (refine wpList_append_where _ rfl (.tmp 21) (.tmp 27) 77 rfl 81 i0 _ 258 288 Try.underlying77 HI.out HZ0.out HZ1.out HZ2.out HZS.out (by decide) (.slice ma xs.length mc) xs.length (flat xs) rfl HROW.out ⟨w0.heap.size + 1, 0, none⟩ 1 1 (stateC true f (.slice (some ⟨w0.heap.size, 0, none⟩) 1 1)).toList rfl (by decide) (sv_news HSC.out.sv).1 HNEWS.out (sv_news HSC.out.sv).2 (len_states (Nat.le_trans HZL.out (by decide))).1 (len_states (Nat.le_trans HZL.out (by decide))).2 ?_))
  intro v' w3 hown hgrow hwh
  have hpu := HM.out.push HBM.out HB.out HX.out HSC.out hown hgrow (by
    rcases hwh with h | h
    · exact .inl h
    · exact .inr ⟨_, h, Nat.le_refl _, (hown.lt _ h).2⟩)
  have HPU := Lib.hid hpu
  obtain ⟨xa, xn, xc, rfl⟩ := owns_slice hown
  clear hown hgrow hwh hpu
  go_wp2_with fail
  go_ret2
  exact ⟨_, _, by rw [← HM.out.len]; rfl, HPU.out.1, HPU.out.2⟩
end Go.Proofs.Ytheblleadjbndaa

namespace Go.Proofs.Ytheblleadjbndaa
open Go.RowKit Rx
/-- A node, how it compiles, and how many states it has at most. -/
abbrev CI := Array Value × CF × Nat
/-- One after the other, from the last one on. -/
def conI : List CI → CF
  | [] => fun M q => (q, M)
  | t :: l => fun M q => t.2.1 (conI l M q).2 (conI l M q).1
def sumI : List CI → Nat
  | [] => 0
  | t :: l => t.2.2 + sumI l
def AllC (W0 : World) (B : Nat) (l : List CI) : Prop := ∀ t ∈ l, RC W0 B t.1 t.2.1 t.2.2
theorem conI_len {W0 : World} {B : Nat} : ∀ {l : List CI}, AllC W0 B l → ∀ M q, M.length ≤ (conI l M q).2.length ∧ (conI l M q).2.length ≤ M.length + sumI l
  | [], _, M, q => by simp [conI, sumI]
  | t :: l, h, M, q => by
    have h1 := conI_len (l := l) (fun u hu => h u (by simp [hu])) M q
    have h2 := (h t (by simp)).len (conI l M q).2 (conI l M q).1
    simp only [conI, sumI]
    omega
theorem conI_old {W0 : World} {B : Nat} : ∀ {l : List CI}, AllC W0 B l → ∀ M q i, i < M.length → (conI l M q).2[i]? = M[i]?
  | [], _, M, q, i, h => rfl
  | t :: l, h, M, q, i, hi => by
    have ha : AllC W0 B l := fun u hu => h u (by simp [hu])
    simp only [conI]
    rw [(h t (by simp)).old _ _ i (Nat.lt_of_lt_of_le hi (conI_len ha M q).1), conI_old ha M q i hi]
theorem sumI_drop (l : List CI) (j : Nat) : sumI (l.drop j) ≤ sumI l := by
  induction l generalizing j with
  | nil => simp
  | cons t l ih =>
    rcases j with _ | j
    · exact Nat.le_refl _
    · have := ih j
      simp only [List.drop_succ_cons, sumI]
      omega
theorem drop_cons {l : List CI} {j : Nat} {t : CI} (h : l[j]? = some t) : l.drop j = t :: l.drop (j + 1) := by
  have hl := (List.getElem?_eq_some_iff.1 h).1
  rw [List.drop_eq_getElem_cons hl, (List.getElem?_eq_some_iff.1 h).2]
/-- What a node's parts read as, wherever the tree's blocks stand as they stood. -/
theorem part_cells {W0 wr : World} {B g cap n : Nat} {ys : List (Array Value)} {i : Nat} {y : Array Value} (h : RRow (fun k => k < B) W0 (.slice (some ⟨g, 0, none⟩) n cap) ys) (hk : ∀ k, k < B → wr.heap[k]? = W0.heap[k]?) (hy : ys[i]? = some y) :
    ∀ j v, y.toList[j]? = some v → wr.cell? ⟨g, i * 259 + j, none⟩ = some v := fun j v hv => by
  have hg : g < B := h.own g rfl
  have hown := owns_same h.row (S := fun k => k = g) (fun g' hg' => by injection hg' with hg'; exact hg'.symm) (W' := wr) (fun k hk2 => by subst hk2; exact hk k hg)
  have hyn := h.nv y (List.mem_of_getElem? hy)
  have hj : j < 259 := by
    have := (List.getElem?_eq_some_iff.1 hv).1
    rw [Array.length_toList, hyn.size] at this; exact this
  have hc := hown.cells (g := g) rfl (i * 259 + j) v (by rw [flat_get h.nv i j y hy hj]; simpa using hv)
  have e : (⟨g, 0, none⟩ : Addr).add (i * 259 + j) = ⟨g, i * 259 + j, none⟩ := by unfold Addr.add; split <;> simp_all
  rwa [e] at hc
theorem rrow_shape {S : Nat → Prop} {W : World} {sv : Value} {ys : List (Array Value)} (h : RRow S W sv ys) : (sv = .slice none 0 0 ∧ ys = []) ∨ ∃ g cap, sv = .slice (some ⟨g, 0, none⟩) ys.length cap ∧ ys.length ≤ cap := by
  rcases h.row.2 with ⟨e, h0⟩ | ⟨g, cap, cur, e, _, _, h3, _⟩
  · exact .inl ⟨e, List.length_eq_zero_iff.1 h0⟩
  · exact .inr ⟨g, cap, e, h3⟩
theorem rm_slice {W : World} {B : Nat} {X : Nat → Prop} {mv : Value} {M : List St} {xs : List (Array Value)} (h : RM W B X mv M xs) : ∃ ma mc, mv = .slice ma xs.length mc := by
  rcases h.row.2 with ⟨e, h0⟩ | ⟨g, cap, cur, e, _⟩
  · exact ⟨none, 0, by rw [e, h0]⟩
  · exact ⟨_, cap, e⟩

set_option maxRecDepth 100000 in
set_option maxHeartbeats 4000000 in
theorem rc_concat (W0 : World) (B : Nat) (sv : Value) (l : List CI) (hrow : RRow (fun k => k < B) W0 sv (l.map (·.1))) (hall : AllC W0 B l) (hln : l.length ≤ 1000) : RC W0 B (nodeC 2 noF false sv) (conI l) (sumI l) := by
  refine ⟨conI_len hall, conI_old hall, NV.node _ _ _ _ hrow.one, ?_⟩
  intro W X mv M xs q hX hk hB hm hz
  obtain ⟨ma, mc, rfl⟩ := rm_slice hm
  have HA : Hid (At (W.alloc (.cells (nodeC 2 noF false sv) 46)) W.heap.size (nodeC 2 noF false sv) 46) := Lib.hid (At.new W _ _)
  have hbx : Below W.heap.size W (W.alloc (.cells (nodeC 2 noF false sv) 46)) := (Below.refl _ _).alloc (Nat.le_refl _) _
  have hm0 := hm.keep hbx
  have HM0 := Lib.hid hm0
  have HBX := Lib.hid hbx
  have HOW : Hid (∀ g, (Value.slice ma xs.length mc).ownBlock = some g → B ≤ g ∧ g < W.heap.size) := Lib.hid hm.own
  have HK0 : Hid (∀ k, k < B → (W.alloc (.cells (nodeC 2 noF false sv) 46)).heap[k]? = W0.heap[k]?) := Lib.hid (fun k hk2 => by rw [Below.heap_alloc _ _ _ (by omega)]; exact hk k hk2)
  have HB := Lib.hid hB
  have HX := Lib.hid hX
  have HZ := Lib.hid hz
  have HROW := Lib.hid hrow
  have HALL := Lib.hid hall
  have HLN := Lib.hid hln
  have hsl := rrow_shape hrow
  obtain ⟨sa, sc, rfl, hsg⟩ : ∃ sa sc, sv = .slice sa l.length sc ∧ (l.length = 0 ∨ ∃ g, sa = some ⟨g, 0, none⟩ ∧ l.length ≤ sc) := by
    rcases hsl with ⟨rfl, h0⟩ | ⟨g, cap, rfl, h3⟩
    · have : l.length = 0 := by simpa using h0
      exact ⟨none, 0, by rw [this], .inl this⟩
    · rw [List.length_map] at h3
      exact ⟨some ⟨g, 0, none⟩, cap, by rw [List.length_map], .inr ⟨g, rfl, h3⟩⟩
  have HSG := Lib.hid hsg
  have d0 : (W.alloc (.cells (nodeC 2 noF false (.slice sa l.length sc)) 46)).cell? ⟨W.heap.size, 0, none⟩ = some (.int .i64 2) := by rw [HA.out.cell, nodeC_kind]
  have d1 : (W.alloc (.cells (nodeC 2 noF false (.slice sa l.length sc)) 46)).cell? ⟨W.heap.size, 258, none⟩ = some (.slice sa l.length sc) := by rw [HA.out.cell, nodeC_args]
  clear hX hk hB hm hz hrow hall hln hm0 hbx hsl hsg
  go_enter Try.func42, Try.ntmps42
  go_upto_region 4 with fail
  generalize W.alloc (.cells (nodeC 2 noF false (.slice sa l.length sc)) 46) = w0 at *
  have hll : (l.length : Int) ≤ 1000 := by have := HLN.out; omega
  go_wp2_with fail
  go_loopg [1, 2, 8] l.length (fun k mv nx iv wr => ∃ (j : Nat) (xs' : List (Array Value)), k = j ∧ j ≤ l.length ∧ iv = .int .i64 ((j : Int) - 1) ∧ nx = .int .i64 ((conI (l.drop j) M q).1 : Nat) ∧ RM wr B X mv (conI (l.drop j) M q).2 xs' ∧ Grew w0 wr (.slice ma xs.length mc) mv)
  case atStart => exact ⟨l.length, xs, rfl, Nat.le_refl _, rfl, by rw [List.drop_length]; rfl, by rw [List.drop_length]; exact HM0.out, Grew.refl _ _⟩
  case round =>
    obtain ⟨j, xs', hg, hj, rfl, rfl, hrm, hgr⟩ := hrel
    obtain ⟨na, nc, rfl⟩ := rm_slice hrm
    have HRM := Lib.hid hrm
    have HGR := Lib.hid hgr
    have HJ := Lib.hid hj
    have hjl : (j : Int) ≤ 1000 := by omega
    have hA2 := HA.out.grew hgr (fun e => by have := (HOW.out _ e).2; omega)
    have d2 : wr.cell? ⟨W.heap.size, 258, none⟩ = some (.slice sa l.length sc) := by rw [hA2.cell, nodeC_args]
    clear hrm hgr hA2 d0 d1
    rcases j with _ | i
    · have HR0 : Hid (l.drop 0 = l) := Lib.hid rfl
      have t1 : ¬ ((0 : Nat) : Int) - 1 ≥ 0 := by omega
      clear hg hj
      go_wp2_with fail
      go_ret2
      rw [HR0.out] at HRM
      exact ⟨_, xs', rfl, HRM.out, (Grew.ofBelow HBX.out).trans HGR.out⟩
    · have hil : i < l.length := hj
      obtain ⟨t, ht⟩ : ∃ t, l[i]? = some t := ⟨_, List.getElem?_eq_getElem hil⟩
      obtain ⟨g, rfl, hsc⟩ : ∃ g, sa = some ⟨g, 0, none⟩ ∧ l.length ≤ sc := by
        rcases HSG.out with h | h
        · omega
        · exact h
      have hdr := drop_cons ht
      have hty : (l.map (·.1))[i]? = some t.1 := by rw [List.getElem?_map, ht]; rfl
      have htc : RC W0 B t.1 t.2.1 t.2.2 := HALL.out t (List.mem_of_getElem? ht)
      have hbl : Below B w0 wr := HGR.out.toBelow (by have := HBX.out.size; have := HB.out; omega) (fun g hg => (HOW.out g hg).1)
      have hkr : ∀ k, k < B → wr.heap[k]? = W0.heap[k]? := fun k hk => (hbl.block k hk).trans (HK0.out k hk)
      have hcl := part_cells HROW.out hkr hty
      have hrun := htc.run wr X (.slice na xs'.length nc) (conI (l.drop (i + 1)) M q).2 xs' (conI (l.drop (i + 1)) M q).1 (fun k hx => by have h1 := HX.out k hx; have h2 := HBX.out.size; have h3 := hbl.size; omega) hkr (by have := HBX.out.size; have := HB.out; have := hbl.size; omega) HRM.out (by
        have h1 := (conI_len (fun u hu => HALL.out u (List.mem_of_mem_drop hu)) M q (l := l.drop (i + 1))).2
        have h2 := sumI_drop l i
        rw [hdr] at h2
        simp only [sumI] at h2
        have := HZ.out
        omega)
      have HCL := Lib.hid hcl
      have HNV := Lib.hid htc.nv
      have HRUN := Lib.hid hrun
      have HDR : Hid (conI (l.drop i) M q = t.2.1 (conI (l.drop (i + 1)) M q).2 (conI (l.drop (i + 1)) M q).1) := Lib.hid (by rw [hdr]; rfl)
      have HMO : Hid (i < gk) := Lib.hid (by omega)
      have e0 : (((i + 1 : Nat) : Int)) - 1 = (i : Int) := by omega
      have t1 : (i : Int) ≥ 0 := by omega
      have t2 : (i : Int) < (l.length : Int) := by omega
      clear hdr hty htc hbl hkr hcl hrun ht hg hj
      rw [e0]
      clear e0
      go_wp2_with (refine wpList_load_arr rfl 46 (.tmp 44) rfl g (i * 259) rfl t.1 _ HCL.out Try.underlying46 rfl (by rw [HNV.out.size]; exact size_node) ?_)
      refine (HRUN.out).mono ?_
      rintro e w2 ⟨mv', xs2, rfl, hrm2, hgr2⟩
      have HRM2 := Lib.hid hrm2
      have HGR2 := Lib.hid (HGR.out.trans hgr2)
      obtain ⟨oa, oc, rfl⟩ := rm_slice hrm2
      clear hrm2 hgr2 HRUN HCL
      go_wp2_with fail
      go_roundg i
      case measure => exact HMO.out
      case rel => exact ⟨i, xs2, rfl, by have := HJ.out; omega, rfl, by rw [HDR.out], by rw [HDR.out]; exact HRM2.out, HGR2.out⟩
end Go.Proofs.Ytheblleadjbndaa

namespace Go.Proofs.Ytheblleadjbndaa
open Go.RowKit Rx
/-- The next states of a state are laid: what the store needs, and what it leaves. -/
theorem rep_close {w5 : World} {B : Nat} {X : Nat → Prop} {mv' : Value} {M2 : List St} {xs2 : List (Array Value)} {i fs q : Nat} (hrm : RM w5 B X mv' M2 xs2) (hX : ∀ k, X k → k < w5.heap.size) (ho : M2[i]? = some (.ep [])) :
    ∃ g2 oc v0, mv' = .slice (some ⟨g2, 0, none⟩) xs2.length oc ∧ i < xs2.length ∧ B ≤ g2 ∧
      (w5.alloc (.cells #[.int .i64 (fs : Nat), .int .i64 q] 3)).cell? ⟨g2, i * 258 + 257, none⟩ = some v0 ∧ (w5.alloc (.cells #[.int .i64 (fs : Nat), .int .i64 q] 3)).frozen? ⟨g2, i * 258 + 257, none⟩ = false ∧
      RM ((w5.alloc (.cells #[.int .i64 (fs : Nat), .int .i64 q] 3)).setCell ⟨g2, i * 258 + 257, none⟩ (.slice (some ⟨w5.heap.size, 0, none⟩) 2 2)) B X mv' (M2.set i (.ep [fs, q])) (xs2.set i (stateC false noF (.slice (some ⟨w5.heap.size, 0, none⟩) 2 2))) ∧
      Grew w5 ((w5.alloc (.cells #[.int .i64 (fs : Nat), .int .i64 q] 3)).setCell ⟨g2, i * 258 + 257, none⟩ (.slice (some ⟨w5.heap.size, 0, none⟩) 2 2)) mv' mv' ∧
      ∀ (b : Nat) (c : Array Value) (t : TypeId), At w5 b c t → b ≠ g2 → At ((w5.alloc (.cells #[.int .i64 (fs : Nat), .int .i64 q] 3)).setCell ⟨g2, i * 258 + 257, none⟩ (.slice (some ⟨w5.heap.size, 0, none⟩) 2 2)) b c t := by
  have hi : i < xs2.length := by rw [hrm.len]; exact (List.getElem?_eq_some_iff.1 ho).1
  obtain ⟨v0, hv0, _⟩ := hrm.st i (.ep []) _ ho (List.getElem?_eq_getElem hi)
  have hxt : xs2[i]? = some (stateC false noF v0) := by rw [List.getElem?_eq_getElem hi, hv0]
  obtain ⟨g2, oc, rfl⟩ : ∃ g2 oc, mv' = .slice (some ⟨g2, 0, none⟩) xs2.length oc := by
    rcases hrm.row.2 with ⟨_, h0⟩ | ⟨g2, cap, cur, e, _⟩
    · omega
    · exact ⟨g2, cap, e⟩
  have hsv2 : ∀ x ∈ xs2, x.size = 258 := fun x hx => (hrm.sv x hx).size
  have hcell : w5.cell? ⟨g2, i * 258 + 257, none⟩ = some v0 := by
    rw [hrm.row.cellAt _ (by omega), flat_getG hsv2 i 257 _ hxt (by omega), stateC_next]
  have hfro : w5.frozen? ⟨g2, i * 258 + 257, none⟩ = false := hrm.row.frozenAt _
  have hg2 := hrm.own g2 rfl
  have hbi : Below w5.heap.size w5 (w5.alloc (.cells #[.int .i64 (fs : Nat), .int .i64 q] 3)) := (Below.refl _ _).alloc (Nat.le_refl _) _
  have hin := World.ownsRow_lit (base := 0) (e := 3) (size := 1) w5 #[.int .i64 (fs : Nat), .int .i64 q] 2 (Nat.zero_le _) (by unfold maxLen; omega) rfl
  have hir : IRow (fun k => w5.heap.size ≤ k ∧ k < (w5.alloc (.cells #[.int .i64 (fs : Nat), .int .i64 q] 3)).heap.size) (w5.alloc (.cells #[.int .i64 (fs : Nat), .int .i64 q] 3)) (.slice (some ⟨w5.heap.size, 0, none⟩) 2 2) [fs, q] := ⟨hin, fun g hg => by
    injection hg with hg
    subst hg
    exact ⟨Nat.le_refl _, by show w5.heap.size < (w5.heap.push _).size; simp⟩⟩
  have hsn := hrm.setNext hbi hX hxt hir
  refine ⟨g2, oc, v0, rfl, hi, hg2.1, by rw [← hcell]; exact hbi.cell hg2.2, by rw [← hfro]; exact hbi.frozen hg2.2, hsn.1, hsn.2, fun b c t hb hne => ?_⟩
  exact (hb.below hbi).other _ hne

set_option maxRecDepth 100000 in
set_option maxHeartbeats 4000000 in
theorem rc_star (W0 : World) (B : Nat) (sv : Value) (y : Array Value) (F : CF) (z : Nat) (hrow : RRow (fun k => k < B) W0 sv [y]) (hy : RC W0 B y F z) :
    RC W0 B (nodeC 4 noF false sv) (fun M q => (M.length, (F (M ++ [.ep []]) M.length).2.set M.length (.ep [(F (M ++ [.ep []]) M.length).1, q]))) (z + 1) := by
  refine ⟨fun M q => ?_, fun M q i h => ?_, NV.node _ _ _ _ hrow.one, ?_⟩
  · have := hy.len (M ++ [.ep []]) M.length
    simp only [List.length_append, List.length_singleton] at this
    simp only [List.length_set]; omega
  · simp only
    rw [get_set_len h, hy.old _ _ i (by simp; omega), get_app h]
  intro W X mv M xs q hX hk hB hm hz
  obtain ⟨ma, mc, rfl⟩ := rm_slice hm
  obtain ⟨i0, hi, hz0, hz1, hz2⟩ := info_parts info_rstate
  have HI := Lib.hid hi
  have HZ0 := Lib.hid hz0
  have HZ1 := Lib.hid hz1
  have HZ2 := Lib.hid hz2
  have HZS := Lib.hid state_zs
  have HZC := Lib.hid zero_state
  obtain ⟨g, sc, rfl, hsc⟩ : ∃ g sc, sv = .slice (some ⟨g, 0, none⟩) 1 sc ∧ 1 ≤ sc := by
    rcases rrow_shape hrow with ⟨rfl, h0⟩ | ⟨g, cap, rfl, h3⟩
    · cases h0
    · exact ⟨g, cap, rfl, h3⟩
  have HA : Hid (At (W.alloc (.cells (nodeC 4 noF false (.slice (some ⟨g, 0, none⟩) 1 sc)) 46)) W.heap.size (nodeC 4 noF false (.slice (some ⟨g, 0, none⟩) 1 sc)) 46) := Lib.hid (At.new W _ _)
  have hbx : Below W.heap.size W (W.alloc (.cells (nodeC 4 noF false (.slice (some ⟨g, 0, none⟩) 1 sc)) 46)) := (Below.refl _ _).alloc (Nat.le_refl _) _
  have hm0 := hm.keep hbx
  have HM0 := Lib.hid hm0
  have HBX := Lib.hid hbx
  have HOW : Hid (∀ g, (Value.slice ma xs.length mc).ownBlock = some g → B ≤ g ∧ g < W.heap.size) := Lib.hid hm.own
  have HK0 : Hid (∀ k, k < B → (W.alloc (.cells (nodeC 4 noF false (.slice (some ⟨g, 0, none⟩) 1 sc)) 46)).heap[k]? = W0.heap[k]?) := Lib.hid (fun k hk2 => by rw [Below.heap_alloc _ _ _ (by omega)]; exact hk k hk2)
  have HB := Lib.hid hB
  have HX := Lib.hid hX
  have HZ := Lib.hid hz
  have HROW := Lib.hid hrow
  have HY := Lib.hid hy
  have HXL : Hid (xs.length = M.length) := Lib.hid hm.len
  have HZL : Hid (xs.length ≤ 1000) := Lib.hid (by rw [hm.len]; omega)
  have d0 : (W.alloc (.cells (nodeC 4 noF false (.slice (some ⟨g, 0, none⟩) 1 sc)) 46)).cell? ⟨W.heap.size, 0, none⟩ = some (.int .i64 4) := by rw [HA.out.cell, nodeC_kind]
  clear hX hk hB hm hz hrow hm0 hbx hi hz0 hz1 hz2 hy
  go_enter Try.func42, Try.ntmps42
  go_upto_region 11 with fail
  generalize W.alloc (.cells (nodeC 4 noF false (.slice (some ⟨g, 0, none⟩) 1 sc)) 46) = w0 at *
  go_wp2_with (refine wpList_state rfl _ rfl Try.zeroCells81 (by rw [HZC.out]; exact ⟨stateC_size _ _ _, stateC_one _ _ _ rfl⟩) ?_ ?_)
  intro wm hwm
  have hbm : Below w0.heap.size w0 wm := by rw [hwm.out]; exact (Below.refl _ _).alloc (Nat.le_refl _) _
  have HNEWS := Lib.hid (state_one hwm.out)
  have HROWM : Hid (wm.ownsRow 0 81 258 (.slice ma xs.length mc) xs.length (flat xs)) := Lib.hid (HM0.out.keep hbm).row
  have HBM := Lib.hid hbm
  have HSVZ : Hid (SV Try.zeroCells81) := Lib.hid (by rw [HZC.out]; exact ⟨stateC_size _ _ _, stateC_one _ _ _ rfl⟩)
  clear hwm hbm
  go_wp2_with (at_builtin; (refine wpList_append_where _ rfl (.tmp 63) (.tmp 65) 77 rfl 81 i0 _ 258 288 Try.underlying77 HI.out HZ0.out HZ1.out HZ2.out HZS.out (by decide) (.slice ma xs.length mc) xs.length (flat xs) rfl HROWM.out ⟨w0.heap.size, 0, none⟩ 1 1 Try.zeroCells81.toList rfl (by decide) (sv_news HSVZ.out).1 HNEWS.out (sv_news HSVZ.out).2 (len_states (Nat.le_trans HZL.out (by decide))).1 (len_states (Nat.le_trans HZL.out (by decide))).2 ?_))
  intro v' w3 hown hgrow hwh
  have hpu := HM0.out.push HBM.out (by have := HBX.out.size; have := HB.out; omega) (fun k hx => by have h1 := HX.out k hx; have h2 := HBX.out.size; omega) (s := .ep []) ⟨nilS, HZC.out, IRow.nil _ _⟩ hown hgrow (by
    rcases hwh with h | h
    · exact .inl h
    · exact .inr ⟨_, h, Nat.le_refl _, (hown.lt _ h).2⟩)
  obtain ⟨na, nc, rfl⟩ : ∃ na nc, v' = .slice na (xs.length + 1) nc := by
    obtain ⟨na, nc, h⟩ := rm_slice hpu.1
    exact ⟨na, nc, by rw [h, List.length_append, List.length_singleton]⟩
  have hbl : Below B w0 w3 := hpu.2.toBelow (by have := HBX.out.size; have := HB.out; omega) (fun g hg => (HOW.out g hg).1)
  have hkr : ∀ k, k < B → w3.heap[k]? = W0.heap[k]? := fun k hk => (hbl.block k hk).trans (HK0.out k hk)
  have hcl := part_cells (i := 0) HROW.out hkr rfl
  have hrun := HY.out.run w3 X (.slice na (xs.length + 1) nc) (M ++ [.ep []]) _ M.length (fun k hx => by have h1 := HX.out k hx; have h2 := HBX.out.size; have h3 := hbl.size; omega) hkr (by have := HBX.out.size; have := HB.out; have := hbl.size; omega) hpu.1 (by
    have := HZ.out
    simp only [List.length_append, List.length_singleton]; omega)
  have hA2 := HA.out.grew hpu.2 (fun e => by have := (HOW.out _ e).2; omega)
  have d2 : w3.cell? ⟨W.heap.size, 258, none⟩ = some (.slice (some ⟨g, 0, none⟩) 1 sc) := by rw [hA2.cell, nodeC_args]
  have HA2 := Lib.hid hA2
  have HGR := Lib.hid hpu.2
  have HCL := Lib.hid hcl
  have HNV := Lib.hid HY.out.nv
  rw [← HXL.out] at hrun
  have HRUN := Lib.hid hrun
  clear hown hgrow hwh hpu hbl hkr hcl hrun hA2 d0
  obtain ⟨M2, hM2⟩ : ∃ M2, (F (M ++ [.ep []]) M.length).2 = M2 := ⟨_, rfl⟩
  obtain ⟨fs, hfs⟩ : ∃ fs, (F (M ++ [.ep []]) M.length).1 = fs := ⟨_, rfl⟩
  have HM2 := Lib.hid hM2
  have HFS := Lib.hid hfs
  clear hM2 hfs
  go_wp2_with (refine wpList_load_arr rfl 46 (.tmp 70) rfl g 0 rfl y _ (fun j v hv => by have := HCL.out j v hv; rwa [Nat.zero_mul] at this) Try.underlying46 rfl (by rw [HNV.out.size]; exact size_node) ?_)
  refine (HRUN.out).mono ?_
  rintro e w5 ⟨mv', xs2, rfl, hrm2, hgr2⟩
  rw [HXL.out, HM2.out] at hrm2
  rw [HXL.out, HFS.out]
  have hold2 := HY.out.old (M ++ [.ep []]) M.length M.length (by simp)
  rw [List.getElem?_append_right (Nat.le_refl _), Nat.sub_self, HM2.out] at hold2
  obtain ⟨g2, oc, v0, rfl, htop, hBg, hc2, hf2, hsn1, hsn2, hsn3⟩ := rep_close (fs := fs) (q := q) hrm2 (fun k hx => by have h1 := HX.out k hx; have h2 := HBX.out.size; have h3 := HGR.out.by_.size; have h4 := hgr2.by_.size; omega) hold2
  have hA5 := HA2.out.grew hgr2 (fun e => by
    rcases HGR.out.own with h | ⟨g3, h, h3⟩
    · rw [h] at e; have := (HOW.out _ e).2; omega
    · rw [h] at e
      injection e with e
      have := HA.out.lt
      omega)
  have HGR2 := Lib.hid (HGR.out.trans hgr2)
  have hne : W.heap.size ≠ g2 := by
    intro e
    rcases HGR2.out.own with h | ⟨g3, h, h3⟩
    · have := (HOW.out g2 h.symm).2; omega
    · injection h with h
      have h5 : g2 = g3 := h
      have := HA.out.lt
      omega
  have hA6 := hsn3 _ _ _ hA5 hne
  have d6 : ((w5.alloc (.cells #[.int .i64 (fs : Nat), .int .i64 q] 3)).setCell ⟨g2, M.length * 258 + 257, none⟩ (.slice (some ⟨w5.heap.size, 0, none⟩) 2 2)).cell? ⟨W.heap.size, 0, none⟩ = some (.int .i64 4) := by rw [hA6.cell, nodeC_kind]
  have t1 : (M.length : Int) < (xs2.length : Int) := by omega
  have HS1 := Lib.hid hsn1
  have HS2 := Lib.hid (HGR2.out.trans hsn2)
  have HD6 := Lib.hid d6
  clear hrm2 hold2 hsn1 hsn2 hsn3 hA5 hA6 hgr2 HRUN HCL d2 d6
  go_upto_region 14 with fail
  have hd6 := HD6.out
  clear HD6 hc2 hf2
  generalize ((w5.alloc (.cells #[.int .i64 (fs : Nat), .int .i64 q] 3)).setCell ⟨g2, M.length * 258 + 257, none⟩ (.slice (some ⟨w5.heap.size, 0, none⟩) 2 2)) = w7 at *
  go_wp2_with fail
  go_ret2
  exact RCPost.mk' (mv' := .slice (some ⟨g2, 0, none⟩) xs2.length oc) (by rfl) (by rw [HFS.out, HM2.out]; exact HS1.out) ((Grew.ofBelow HBX.out).trans HS2.out)

set_option maxRecDepth 100000 in
set_option maxHeartbeats 4000000 in
theorem rc_plus (W0 : World) (B : Nat) (sv : Value) (y : Array Value) (F : CF) (z : Nat) (hrow : RRow (fun k => k < B) W0 sv [y]) (hy : RC W0 B y F z) :
    RC W0 B (nodeC 5 noF false sv) (fun M q => ((F (M ++ [.ep []]) M.length).1, (F (M ++ [.ep []]) M.length).2.set M.length (.ep [(F (M ++ [.ep []]) M.length).1, q]))) (z + 1) := by
  refine ⟨fun M q => ?_, fun M q i h => ?_, NV.node _ _ _ _ hrow.one, ?_⟩
  · have := hy.len (M ++ [.ep []]) M.length
    simp only [List.length_append, List.length_singleton] at this
    simp only [List.length_set]; omega
  · simp only
    rw [get_set_len h, hy.old _ _ i (by simp; omega), get_app h]
  intro W X mv M xs q hX hk hB hm hz
  obtain ⟨ma, mc, rfl⟩ := rm_slice hm
  obtain ⟨i0, hi, hz0, hz1, hz2⟩ := info_parts info_rstate
  have HI := Lib.hid hi
  have HZ0 := Lib.hid hz0
  have HZ1 := Lib.hid hz1
  have HZ2 := Lib.hid hz2
  have HZS := Lib.hid state_zs
  have HZC := Lib.hid zero_state
  obtain ⟨g, sc, rfl, hsc⟩ : ∃ g sc, sv = .slice (some ⟨g, 0, none⟩) 1 sc ∧ 1 ≤ sc := by
    rcases rrow_shape hrow with ⟨rfl, h0⟩ | ⟨g, cap, rfl, h3⟩
    · cases h0
    · exact ⟨g, cap, rfl, h3⟩
  have HA : Hid (At (W.alloc (.cells (nodeC 5 noF false (.slice (some ⟨g, 0, none⟩) 1 sc)) 46)) W.heap.size (nodeC 5 noF false (.slice (some ⟨g, 0, none⟩) 1 sc)) 46) := Lib.hid (At.new W _ _)
  have hbx : Below W.heap.size W (W.alloc (.cells (nodeC 5 noF false (.slice (some ⟨g, 0, none⟩) 1 sc)) 46)) := (Below.refl _ _).alloc (Nat.le_refl _) _
  have hm0 := hm.keep hbx
  have HM0 := Lib.hid hm0
  have HBX := Lib.hid hbx
  have HOW : Hid (∀ g, (Value.slice ma xs.length mc).ownBlock = some g → B ≤ g ∧ g < W.heap.size) := Lib.hid hm.own
  have HK0 : Hid (∀ k, k < B → (W.alloc (.cells (nodeC 5 noF false (.slice (some ⟨g, 0, none⟩) 1 sc)) 46)).heap[k]? = W0.heap[k]?) := Lib.hid (fun k hk2 => by rw [Below.heap_alloc _ _ _ (by omega)]; exact hk k hk2)
  have HB := Lib.hid hB
  have HX := Lib.hid hX
  have HZ := Lib.hid hz
  have HROW := Lib.hid hrow
  have HY := Lib.hid hy
  have HXL : Hid (xs.length = M.length) := Lib.hid hm.len
  have HZL : Hid (xs.length ≤ 1000) := Lib.hid (by rw [hm.len]; omega)
  have d0 : (W.alloc (.cells (nodeC 5 noF false (.slice (some ⟨g, 0, none⟩) 1 sc)) 46)).cell? ⟨W.heap.size, 0, none⟩ = some (.int .i64 5) := by rw [HA.out.cell, nodeC_kind]
  clear hX hk hB hm hz hrow hm0 hbx hi hz0 hz1 hz2 hy
  go_enter Try.func42, Try.ntmps42
  go_upto_region 11 with fail
  generalize W.alloc (.cells (nodeC 5 noF false (.slice (some ⟨g, 0, none⟩) 1 sc)) 46) = w0 at *
  go_wp2_with (refine wpList_state rfl _ rfl Try.zeroCells81 (by rw [HZC.out]; exact ⟨stateC_size _ _ _, stateC_one _ _ _ rfl⟩) ?_ ?_)
  intro wm hwm
  have hbm : Below w0.heap.size w0 wm := by rw [hwm.out]; exact (Below.refl _ _).alloc (Nat.le_refl _) _
  have HNEWS := Lib.hid (state_one hwm.out)
  have HROWM : Hid (wm.ownsRow 0 81 258 (.slice ma xs.length mc) xs.length (flat xs)) := Lib.hid (HM0.out.keep hbm).row
  have HBM := Lib.hid hbm
  have HSVZ : Hid (SV Try.zeroCells81) := Lib.hid (by rw [HZC.out]; exact ⟨stateC_size _ _ _, stateC_one _ _ _ rfl⟩)
  clear hwm hbm
  go_wp2_with (at_builtin; (refine wpList_append_where _ rfl (.tmp 63) (.tmp 65) 77 rfl 81 i0 _ 258 288 Try.underlying77 HI.out HZ0.out HZ1.out HZ2.out HZS.out (by decide) (.slice ma xs.length mc) xs.length (flat xs) rfl HROWM.out ⟨w0.heap.size, 0, none⟩ 1 1 Try.zeroCells81.toList rfl (by decide) (sv_news HSVZ.out).1 HNEWS.out (sv_news HSVZ.out).2 (len_states (Nat.le_trans HZL.out (by decide))).1 (len_states (Nat.le_trans HZL.out (by decide))).2 ?_))
  intro v' w3 hown hgrow hwh
  have hpu := HM0.out.push HBM.out (by have := HBX.out.size; have := HB.out; omega) (fun k hx => by have h1 := HX.out k hx; have h2 := HBX.out.size; omega) (s := .ep []) ⟨nilS, HZC.out, IRow.nil _ _⟩ hown hgrow (by
    rcases hwh with h | h
    · exact .inl h
    · exact .inr ⟨_, h, Nat.le_refl _, (hown.lt _ h).2⟩)
  obtain ⟨na, nc, rfl⟩ : ∃ na nc, v' = .slice na (xs.length + 1) nc := by
    obtain ⟨na, nc, h⟩ := rm_slice hpu.1
    exact ⟨na, nc, by rw [h, List.length_append, List.length_singleton]⟩
  have hbl : Below B w0 w3 := hpu.2.toBelow (by have := HBX.out.size; have := HB.out; omega) (fun g hg => (HOW.out g hg).1)
  have hkr : ∀ k, k < B → w3.heap[k]? = W0.heap[k]? := fun k hk => (hbl.block k hk).trans (HK0.out k hk)
  have hcl := part_cells (i := 0) HROW.out hkr rfl
  have hrun := HY.out.run w3 X (.slice na (xs.length + 1) nc) (M ++ [.ep []]) _ M.length (fun k hx => by have h1 := HX.out k hx; have h2 := HBX.out.size; have h3 := hbl.size; omega) hkr (by have := HBX.out.size; have := HB.out; have := hbl.size; omega) hpu.1 (by
    have := HZ.out
    simp only [List.length_append, List.length_singleton]; omega)
  have hA2 := HA.out.grew hpu.2 (fun e => by have := (HOW.out _ e).2; omega)
  have d2 : w3.cell? ⟨W.heap.size, 258, none⟩ = some (.slice (some ⟨g, 0, none⟩) 1 sc) := by rw [hA2.cell, nodeC_args]
  have HA2 := Lib.hid hA2
  have HGR := Lib.hid hpu.2
  have HCL := Lib.hid hcl
  have HNV := Lib.hid HY.out.nv
  rw [← HXL.out] at hrun
  have HRUN := Lib.hid hrun
  clear hown hgrow hwh hpu hbl hkr hcl hrun hA2 d0
  obtain ⟨M2, hM2⟩ : ∃ M2, (F (M ++ [.ep []]) M.length).2 = M2 := ⟨_, rfl⟩
  obtain ⟨fs, hfs⟩ : ∃ fs, (F (M ++ [.ep []]) M.length).1 = fs := ⟨_, rfl⟩
  have HM2 := Lib.hid hM2
  have HFS := Lib.hid hfs
  clear hM2 hfs
  go_wp2_with (refine wpList_load_arr rfl 46 (.tmp 70) rfl g 0 rfl y _ (fun j v hv => by have := HCL.out j v hv; rwa [Nat.zero_mul] at this) Try.underlying46 rfl (by rw [HNV.out.size]; exact size_node) ?_)
  refine (HRUN.out).mono ?_
  rintro e w5 ⟨mv', xs2, rfl, hrm2, hgr2⟩
  rw [HXL.out, HM2.out] at hrm2
  rw [HXL.out, HFS.out]
  have hold2 := HY.out.old (M ++ [.ep []]) M.length M.length (by simp)
  rw [List.getElem?_append_right (Nat.le_refl _), Nat.sub_self, HM2.out] at hold2
  obtain ⟨g2, oc, v0, rfl, htop, hBg, hc2, hf2, hsn1, hsn2, hsn3⟩ := rep_close (fs := fs) (q := q) hrm2 (fun k hx => by have h1 := HX.out k hx; have h2 := HBX.out.size; have h3 := HGR.out.by_.size; have h4 := hgr2.by_.size; omega) hold2
  have hA5 := HA2.out.grew hgr2 (fun e => by
    rcases HGR.out.own with h | ⟨g3, h, h3⟩
    · rw [h] at e; have := (HOW.out _ e).2; omega
    · rw [h] at e
      injection e with e
      have := HA.out.lt
      omega)
  have HGR2 := Lib.hid (HGR.out.trans hgr2)
  have hne : W.heap.size ≠ g2 := by
    intro e
    rcases HGR2.out.own with h | ⟨g3, h, h3⟩
    · have := (HOW.out g2 h.symm).2; omega
    · injection h with h
      have h5 : g2 = g3 := h
      have := HA.out.lt
      omega
  have hA6 := hsn3 _ _ _ hA5 hne
  have d6 : ((w5.alloc (.cells #[.int .i64 (fs : Nat), .int .i64 q] 3)).setCell ⟨g2, M.length * 258 + 257, none⟩ (.slice (some ⟨w5.heap.size, 0, none⟩) 2 2)).cell? ⟨W.heap.size, 0, none⟩ = some (.int .i64 5) := by rw [hA6.cell, nodeC_kind]
  have t1 : (M.length : Int) < (xs2.length : Int) := by omega
  have HS1 := Lib.hid hsn1
  have HS2 := Lib.hid (HGR2.out.trans hsn2)
  have HD6 := Lib.hid d6
  clear hrm2 hold2 hsn1 hsn2 hsn3 hA5 hA6 hgr2 HRUN HCL d2 d6
  go_upto_region 14 with fail
  have hd6 := HD6.out
  clear HD6 hc2 hf2
  generalize ((w5.alloc (.cells #[.int .i64 (fs : Nat), .int .i64 q] 3)).setCell ⟨g2, M.length * 258 + 257, none⟩ (.slice (some ⟨w5.heap.size, 0, none⟩) 2 2)) = w7 at *
  go_wp2_with fail
  go_ret2
  exact RCPost.mk' (mv' := .slice (some ⟨g2, 0, none⟩) xs2.length oc) (by rw [HFS.out]; rfl) (by rw [HFS.out, HM2.out]; exact HS1.out) ((Grew.ofBelow HBX.out).trans HS2.out)
end Go.Proofs.Ytheblleadjbndaa

namespace Go.Proofs.Ytheblleadjbndaa
open Go.RowKit Rx
/-- One beside the other. -/
def eiL : List CI → List St → Nat → List Nat × List St
  | [], M, _ => ([], M)
  | t :: l, M, q => ((t.2.1 M q).1 :: (eiL l (t.2.1 M q).2 q).1, (eiL l (t.2.1 M q).2 q).2)
def eiF (l : List CI) : CF := fun M q => ((eiL l M q).2.length, (eiL l M q).2 ++ [.ep (eiL l M q).1])
theorem eiL_len {W0 : World} {B : Nat} : ∀ {l : List CI}, AllC W0 B l → ∀ M q, M.length ≤ (eiL l M q).2.length ∧ (eiL l M q).2.length ≤ M.length + sumI l
  | [], _, M, q => by simp [eiL, sumI]
  | t :: l, h, M, q => by
    have h2 := (h t (by simp)).len M q
    have h1 := eiL_len (l := l) (fun u hu => h u (by simp [hu])) (t.2.1 M q).2 q
    simp only [eiL, sumI]
    omega
theorem eiL_old {W0 : World} {B : Nat} : ∀ {l : List CI}, AllC W0 B l → ∀ M q i, i < M.length → (eiL l M q).2[i]? = M[i]?
  | [], _, M, q, i, h => rfl
  | t :: l, h, M, q, i, hi => by
    have ht := h t (by simp)
    simp only [eiL]
    rw [eiL_old (l := l) (fun u hu => h u (by simp [hu])) _ _ i (Nat.lt_of_lt_of_le hi (ht.len M q).1), ht.old _ _ i hi]
theorem info_intp : (Try.prog.info? 3).map (fun i => (i.zero, i.size, i.bytes)) = some (some (.int .i64 0), 1, 8) := by kernel_rfl
theorem len_int {n : Nat} (h : n ≤ 1001) : n + 1 ≤ maxLen ∧ (n + 1) * 8 ≤ 140737488355328 := by unfold maxLen; omega
theorem rone_int (q : Nat) : ∀ u ∈ [Value.int .i64 (q : Nat)], u.oneCell' = true := by
  intro u hu
  simp at hu
  subst hu
  rfl
theorem built_ep (v : Value) : Try.zeroCells81.setIfInBounds 257 v = stateC false noF v := by rw [zero_state, stateC_setNext]

set_option maxRecDepth 100000 in
set_option maxHeartbeats 4000000 in
theorem rc_either (W0 : World) (B : Nat) (sv : Value) (l : List CI) (hrow : RRow (fun k => k < B) W0 sv (l.map (·.1))) (hall : AllC W0 B l) (hln : l.length ≤ 1000) : RC W0 B (nodeC 3 noF false sv) (eiF l) (sumI l + 1) := by
  refine ⟨fun M q => ?_, fun M q i h => ?_, NV.node _ _ _ _ hrow.one, ?_⟩
  · have := eiL_len hall M q
    simp only [eiF, List.length_append, List.length_singleton]; omega
  · simp only [eiF]
    rw [get_app (Nat.lt_of_lt_of_le h (eiL_len hall M q).1), eiL_old hall M q i h]
  intro W X mv M xs q hX hk hB hm hz
  obtain ⟨ma, mc, rfl⟩ := rm_slice hm
  obtain ⟨i0, hi, hz0, hz1, hz2⟩ := info_parts info_rstate
  have HI := Lib.hid hi
  have HZ0 := Lib.hid hz0
  have HZ1 := Lib.hid hz1
  have HZ2 := Lib.hid hz2
  have HZS := Lib.hid state_zs
  obtain ⟨j0, hj, hj0, hj1, hj2⟩ := info_parts info_intp
  have HI' := Lib.hid hj
  have HJ0 := Lib.hid hj0
  have HJ1 := Lib.hid hj1
  have HJ2 := Lib.hid hj2
  have HA : Hid (At (W.alloc (.cells (nodeC 3 noF false sv) 46)) W.heap.size (nodeC 3 noF false sv) 46) := Lib.hid (At.new W _ _)
  have hbx : Below W.heap.size W (W.alloc (.cells (nodeC 3 noF false sv) 46)) := (Below.refl _ _).alloc (Nat.le_refl _) _
  have hm0 := hm.keep hbx
  have HM0 := Lib.hid hm0
  have HBX := Lib.hid hbx
  have HBS : Hid ((W.alloc (.cells (nodeC 3 noF false sv) 46)).heap.size = W.heap.size + 1) := Lib.hid (by show (W.heap.push _).size = _; simp)
  have HOW : Hid (∀ g, (Value.slice ma xs.length mc).ownBlock = some g → B ≤ g ∧ g < W.heap.size) := Lib.hid hm.own
  have HK0 : Hid (∀ k, k < B → (W.alloc (.cells (nodeC 3 noF false sv) 46)).heap[k]? = W0.heap[k]?) := Lib.hid (fun k hk2 => by rw [Below.heap_alloc _ _ _ (by omega)]; exact hk k hk2)
  have HB := Lib.hid hB
  have HX := Lib.hid hX
  have HZ := Lib.hid hz
  have HROW := Lib.hid hrow
  have HALL := Lib.hid hall
  have HLN := Lib.hid hln
  have hsl := rrow_shape hrow
  obtain ⟨sa, sc, rfl, hsg⟩ : ∃ sa sc, sv = .slice sa l.length sc ∧ (l.length = 0 ∨ ∃ g, sa = some ⟨g, 0, none⟩ ∧ l.length ≤ sc) := by
    rcases hsl with ⟨rfl, h0⟩ | ⟨g, cap, rfl, h3⟩
    · have : l.length = 0 := by simpa using h0
      exact ⟨none, 0, by rw [this], .inl this⟩
    · rw [List.length_map] at h3
      exact ⟨some ⟨g, 0, none⟩, cap, by rw [List.length_map], .inr ⟨g, rfl, h3⟩⟩
  have HSG := Lib.hid hsg
  have d0 : (W.alloc (.cells (nodeC 3 noF false (.slice sa l.length sc)) 46)).cell? ⟨W.heap.size, 0, none⟩ = some (.int .i64 3) := by rw [HA.out.cell, nodeC_kind]
  clear hX hk hB hm hz hrow hall hln hm0 hbx hsl hsg hi hz0 hz1 hz2 hj hj0 hj1 hj2
  go_enter Try.func42, Try.ntmps42
  go_upto_region 17 with fail
  generalize W.alloc (.cells (nodeC 3 noF false (.slice sa l.length sc)) 46) = w0 at *
  have hll : (l.length : Int) ≤ 1000 := by have := HLN.out; omega
  go_wp2_with fail
  have hs0 : (w0.alloc (.cells #[] 3)).heap.size = w0.heap.size + 1 := by show (w0.heap.push _).size = _; simp
  have hbi : Below w0.heap.size w0 (w0.alloc (.cells #[] 3)) := (Below.refl _ _).alloc (Nat.le_refl _) _
  have hst0 := World.ownsRow_lit (base := 0) (e := 3) (size := 1) w0 #[] 0 (Nat.zero_le _) (by unfold maxLen; omega) rfl
  have hrm0 : RM (w0.alloc (.cells #[] 3)) B (fun k => X k ∨ (Value.slice (some ⟨w0.heap.size, 0, none⟩) 0 0).ownBlock = some k) (.slice ma xs.length mc) M xs :=
    (HM0.out.excl _ (fun k hk => by injection hk with hk; have e : w0.heap.size = k := hk; omega)).keep hbi
  have HI0 : Hid ((w0.alloc (.cells #[] 3)).ownsRow 0 3 1 (.slice (some ⟨w0.heap.size, 0, none⟩) 0 0) 0 (([] : List Nat).map rintV)) := Lib.hid hst0
  have HRM0 := Lib.hid hrm0
  have HS0 := Lib.hid hs0
  have HBI := Lib.hid hbi
  clear hs0 hbi hst0 hrm0
  generalize w0.alloc (.cells #[] 3) = wI at *
  go_loopg [1, 12, 13] l.length (fun k mv v12 iv wr => ∃ (j : Nat) (xs' : List (Array Value)) (Mj : List St) (st : List Nat), k = l.length - j ∧ j ≤ l.length ∧ iv = .int .i64 j ∧ st.length = j ∧ eiL l M q = (st ++ (eiL (l.drop j) Mj q).1, (eiL (l.drop j) Mj q).2) ∧ Mj.length + sumI (l.drop j) ≤ M.length + sumI l ∧
    RM wr B (fun k => X k ∨ v12.ownBlock = some k) mv Mj xs' ∧ wr.ownsRow 0 3 1 v12 st.length (st.map rintV) ∧ (∀ g, v12.ownBlock = some g → w0.heap.size ≤ g ∧ g < wr.heap.size) ∧ Grew w0 wr (.slice ma xs.length mc) mv)
  case atStart => exact ⟨0, xs, M, [], rfl, Nat.zero_le _, rfl, rfl, rfl, Nat.le_refl _, HRM0.out, HI0.out, fun g hg => by injection hg with hg; have e : w0.heap.size = g := hg; have := HS0.out; omega, Grew.ofBelow HBI.out⟩
  case round =>
    obtain ⟨j, xs', Mj, st, hg, hj, rfl, hst, hei, hsum, hrm, hown12, ho12, hgr⟩ := hrel
    clear HRM0 HI0
    obtain ⟨na, nc, rfl⟩ := rm_slice hrm
    obtain ⟨ta, tn, tc, rfl⟩ := owns_slice hown12
    obtain rfl : tn = st.length := by
      rcases hown12.2 with ⟨e, h0⟩ | ⟨g, cap, cur, e, _⟩
      · injection e with _ e _; omega
      · injection e with _ e _
    have HRM := Lib.hid hrm
    have HGR := Lib.hid hgr
    have HJ := Lib.hid hj
    have HST := Lib.hid hst
    have HEI := Lib.hid hei
    have HSUM := Lib.hid hsum
    have HO12 := Lib.hid hown12
    have HO12b := Lib.hid ho12
    have hjl : (j : Int) ≤ 1000 := by omega
    have hA2 := HA.out.grew hgr (fun e => by have := (HOW.out _ e).2; omega)
    have HA2 := Lib.hid hA2
    have d2 : wr.cell? ⟨W.heap.size, 258, none⟩ = some (.slice sa l.length sc) := by rw [hA2.cell, nodeC_args]
    have HGK := Lib.hid hg
    clear hrm hgr hA2 d0 hst hei hsum hown12 ho12 hg
    by_cases hlt : j < l.length
    · obtain ⟨t, ht⟩ : ∃ t, l[j]? = some t := ⟨_, List.getElem?_eq_getElem hlt⟩
      obtain ⟨g, rfl, hsc⟩ : ∃ g, sa = some ⟨g, 0, none⟩ ∧ l.length ≤ sc := by
        rcases HSG.out with h | h
        · omega
        · exact h
      have hdr := drop_cons ht
      have hty : (l.map (·.1))[j]? = some t.1 := by rw [List.getElem?_map, ht]; rfl
      have htc : RC W0 B t.1 t.2.1 t.2.2 := HALL.out t (List.mem_of_getElem? ht)
      have hbl : Below B w0 wr := HGR.out.toBelow (by have := HBX.out.size; have := HB.out; omega) (fun g hg => (HOW.out g hg).1)
      have hkr : ∀ k, k < B → wr.heap[k]? = W0.heap[k]? := fun k hk => (hbl.block k hk).trans (HK0.out k hk)
      have hcl := part_cells HROW.out hkr hty
      have hsum2 := HSUM.out
      have hei2 := HEI.out
      rw [hdr] at hsum2 hei2
      simp only [sumI, eiL] at hsum2 hei2
      have hrun := htc.run wr _ (.slice na xs'.length nc) Mj xs' q (fun k hx => by
        rcases hx with hx | hx
        · have h1 := HX.out k hx; have h2 := HBX.out.size; have h3 := hbl.size; omega
        · exact (HO12b.out k hx).2) hkr (by have := HBX.out.size; have := HB.out; have := hbl.size; omega) HRM.out (by have := HZ.out; omega)
      have HCL := Lib.hid hcl
      have HNV := Lib.hid htc.nv
      have HRUN := Lib.hid hrun
      have HEI2 := Lib.hid hei2
      have HSUM2 : Hid ((t.2.1 Mj q).2.length + sumI (l.drop (j + 1)) ≤ M.length + sumI l) := Lib.hid (by have := (htc.len Mj q).2; omega)
      have HMO : Hid (l.length - (j + 1) < gk) := Lib.hid (by have := HGK.out; omega)
      have t2 : (j : Int) < (l.length : Int) := by omega
      clear hdr hty htc hbl hkr hcl hrun ht hsum2 hei2 HGK
      go_wp2_with (refine wpList_load_arr rfl 46 (.tmp 103) rfl g (j * 259) rfl t.1 _ HCL.out Try.underlying46 rfl (by rw [HNV.out.size]; exact size_node) ?_)
      refine (HRUN.out).mono ?_
      rintro e w2 ⟨mv', xs2, rfl, hrm2, hgr2⟩
      obtain ⟨fs, hfs⟩ : ∃ fs, (t.2.1 Mj q).1 = fs := ⟨_, rfl⟩
      obtain ⟨M2, hM2⟩ : ∃ M2, (t.2.1 Mj q).2 = M2 := ⟨_, rfl⟩
      have HFS := Lib.hid hfs
      have HM2 := Lib.hid hM2
      rw [hM2] at hrm2
      rw [hfs]
      clear hfs hM2
      obtain ⟨oa, oc, rfl⟩ := rm_slice hrm2
      have hgr3 := HGR.out.trans hgr2
      have hbi : Below w2.heap.size w2 (w2.alloc (.cells #[.int .i64 (fs : Nat)] 3)) := (Below.refl _ _).alloc (Nat.le_refl _) _
      have hst2 : w2.ownsRow 0 3 1 (.slice ta st.length tc) st.length (st.map rintV) := owns_same HO12.out (S := fun k => (Value.slice ta st.length tc).ownBlock = some k) (fun g hg => hg) (fun k hk => hgr2.by_.block k (HO12b.out k hk).2 (fun e => HRM.out.nx k e.symm (.inr hk)))
      have hst3 : (w2.alloc (.cells #[.int .i64 (fs : Nat)] 3)).ownsRow 0 3 1 (.slice ta st.length tc) st.length (st.map rintV) := hst2.alloc _
      have HST3 := Lib.hid hst3
      have HRM3 := Lib.hid (hrm2.keep hbi)
      have HGR3 := Lib.hid hgr3
      have HBI2 := Lib.hid hbi
      have HSZ2 : Hid (wr.heap.size ≤ w2.heap.size) := Lib.hid hgr2.by_.size
      have HSTL : Hid (st.length ≤ 1001) := Lib.hid (by have := HST.out; have := HLN.out; omega)
      clear hrm2 hgr2 hgr3 hbi hst2 hst3 HRUN HCL d2
      go_wp2_with (at_builtin; (refine wpList_append_where _ rfl (.tmp 110) (.tmp 112) 68 rfl 3 j0 _ 1 8 Try.underlying68 HI'.out HJ0.out HJ1.out HJ2.out rfl (by decide) (.slice ta st.length tc) st.length (st.map rintV) rfl HST3.out ⟨w2.heap.size, 0, none⟩ 1 1 [.int .i64 (fs : Nat)] rfl (by decide) rfl (new_one w2 (.int .i64 (fs : Nat)) 3) (rone_int fs) (len_int HSTL.out).1 (len_int HSTL.out).2 ?_))
      intro v' w3 hown hgrow hwh
      have hwg : v'.ownBlock = (Value.slice ta st.length tc).ownBlock ∨ ∃ g, v'.ownBlock = some g ∧ (w2.alloc (.cells #[.int .i64 (fs : Nat)] 3)).heap.size ≤ g := by
        rcases hwh with h | h
        · exact .inl h
        · exact .inr ⟨_, h, by show (w2.heap.push _).size ≤ w2.heap.size + 1; simp⟩
      have HRM4 := Lib.hid (HRM3.out.other hgrow hwg)
      have HGR4 := Lib.hid (HGR3.out.row HBI2.out hgrow (fun g hg => (HO12b.out g hg).1))
      have HOW4 : Hid (w3.ownsRow 0 3 1 v' (st ++ [fs]).length ((st ++ [fs]).map rintV)) := Lib.hid (by rw [List.length_append, List.map_append]; exact hown)
      have HOB4 : Hid (∀ g, v'.ownBlock = some g → w0.heap.size ≤ g ∧ g < w3.heap.size) := Lib.hid (fun g hg => by
        refine ⟨?_, (hown.lt g hg).2⟩
        rcases hwg with h | ⟨g', h, h2⟩
        · rw [h] at hg; exact (HO12b.out g hg).1
        · rw [h] at hg
          injection hg with hg
          have h3 := HBI2.out.size
          have h4 := HGR3.out.by_.size
          omega)
      obtain ⟨ya, yn, yc, rfl⟩ := owns_slice hown
      clear hown hgrow hwh hwg HRM3 HGR3
      go_wp2_with fail
      go_roundg (l.length - (j + 1))
      case measure => exact HMO.out
      case rel => exact ⟨j + 1, xs2, M2, st ++ [fs], rfl, by have := HJ.out; omega, rfl, by have := HST.out; simp; omega, by rw [HEI2.out, HFS.out, HM2.out]; simp, by have := HSUM2.out; rw [HM2.out] at this; exact this, HRM4.out, HOW4.out, HOB4.out, HGR4.out⟩
    · have HJL : Hid (l.drop j = []) := Lib.hid (List.drop_eq_nil_of_le (by omega))
      have HEI3 : Hid (eiL l M q = (st, Mj)) := Lib.hid (by rw [HEI.out, HJL.out]; simp [eiL])
      have t2 : ¬ (j : Int) < (l.length : Int) := by omega
      have HZL : Hid (xs'.length ≤ 1000) := Lib.hid (by have h1 := HSUM.out; have h2 := HZ.out; have h3 := HRM.out.len; omega)
      clear HEI HGK
      go_wp2_with (refine wpList_state rfl _ rfl (Try.zeroCells81.setIfInBounds 257 (.slice ta st.length tc)) (by rw [built_ep]; exact ⟨stateC_size _ _ _, stateC_one _ _ _ rfl⟩) ?_ ?_)
      intro wm hwm
      have hbm : Below wr.heap.size wr wm := by rw [hwm.out]; exact (Below.refl _ _).alloc (Nat.le_refl _) _
      have HNEWS := Lib.hid (state_one hwm.out)
      have HROWM : Hid (wm.ownsRow 0 81 258 (.slice na xs'.length nc) xs'.length (flat xs')) := Lib.hid (HRM.out.keep hbm).row
      have HBM := Lib.hid hbm
      have HSVZ : Hid (SV (Try.zeroCells81.setIfInBounds 257 (.slice ta st.length tc))) := Lib.hid (by rw [built_ep]; exact ⟨stateC_size _ _ _, stateC_one _ _ _ rfl⟩)
      clear hwm hbm d2
      go_wp2_with (at_builtin; (refine wpList_append_where _ rfl (.tmp 117) (.tmp 120) 77 rfl 81 i0 _ 258 288 Try.underlying77 HI.out HZ0.out HZ1.out HZ2.out HZS.out (by decide) (.slice na xs'.length nc) xs'.length (flat xs') rfl HROWM.out ⟨wr.heap.size, 0, none⟩ 1 1 (Try.zeroCells81.setIfInBounds 257 (.slice ta st.length tc)).toList rfl (by decide) (sv_news HSVZ.out).1 HNEWS.out (sv_news HSVZ.out).2 (len_states (Nat.le_trans HZL.out (by decide))).1 (len_states (Nat.le_trans HZL.out (by decide))).2 ?_))
      intro v' w3 hown hgrow hwh
      have hpu := (HRM.out.weak (fun k hk => Or.inl hk) : RM wr B X _ Mj xs').pushAny (S := fun k => (Value.slice ta st.length tc).ownBlock = some k) HBM.out (by have := HBX.out.size; have := HB.out; have := HGR.out.by_.size; omega) (fun k hx => by have h1 := HX.out k hx; have h2 := HBX.out.size; have := HGR.out.by_.size; omega) (s := .ep st) ⟨_, built_ep _, ⟨owns_same HO12.out (S := fun k => (Value.slice ta st.length tc).ownBlock = some k) (fun g hg => hg) (fun k hk => HBM.out.block k (HO12b.out k hk).2), fun g hg => hg⟩⟩ (fun k hk => by
        have h1 := HO12b.out k hk
        have h2 := HBM.out.size
        have h3 := HBX.out.size
        have h4 := HB.out
        exact ⟨by omega, by omega, fun e => HRM.out.nx k e (.inr hk), fun hx => by have h5 := HX.out k hx; omega⟩) hown hgrow (by
        rcases hwh with h | h
        · exact .inl h
        · exact .inr ⟨_, h, Nat.le_refl _, (hown.lt _ h).2⟩)
      have HPU := Lib.hid hpu
      obtain ⟨ya, yn, yc, rfl⟩ := owns_slice hown
      clear hown hgrow hwh hpu
      go_wp2_with fail
      go_ret2
      exact RCPost.mk' (by simp only [eiF, HEI3.out]; rw [← HRM.out.len]; rfl) (by simp only [eiF, HEI3.out]; exact HPU.out.1) ((Grew.ofBelow HBX.out).trans (HGR.out.trans HPU.out.2))
end Go.Proofs.Ytheblleadjbndaa

namespace Go.Proofs.Ytheblleadjbndaa
open Go.RowKit Rx
theorem RC.congr {W0 : World} {B : Nat} {x : Array Value} {F G : CF} {z z' : Nat} (h : RC W0 B x F z) (e : ∀ M q, F M q = G M q) (hz : z = z') : RC W0 B x G z' := by
  obtain rfl : F = G := by funext M q; exact e M q
  subst hz
  exact h
mutual
theorem rcU {W0 : World} {B : Nat} : ∀ (u : U) (x : Array Value), szU u ≤ 900 → RnU (fun k => k < B) W0 u x → RC W0 B x (raU u) (rzU u)
  | .byte c, x, _, h => by
    unfold RnU at h
    subst h
    exact (rc_class W0 B _ true).congr (fun M q => by simp only [raU]) (by simp only [rzU])
  | .cls f, x, _, h => by
    unfold RnU at h
    subst h
    exact (rc_class W0 B _ false).congr (fun M q => by simp only [raU]) (by simp only [rzU])
  | .grp a, x, hz, h => by
    unfold RnU at h
    simp only [szU] at hz
    obtain ⟨sv, xs, rfl, h2, h3⟩ := h
    obtain ⟨l, h4, h5, h6, h7, h8⟩ := rcA a xs (by omega) h3
    exact (rc_either W0 B sv l (by rw [h4]; exact h2) h5 (by omega)).congr (fun M q => by simp only [raU, eiF, h6]) (by simp only [rzU, h7])
  | .star u, x, hz, h => by
    unfold RnU at h
    simp only [szU] at hz
    obtain ⟨sv, y, rfl, h2, h3⟩ := h
    exact (rc_star W0 B sv y _ _ h2 (rcU u y (by omega) h3)).congr (fun M q => by simp only [raU]) (by simp only [rzU])
  | .plus u, x, hz, h => by
    unfold RnU at h
    simp only [szU] at hz
    obtain ⟨sv, y, rfl, h2, h3⟩ := h
    exact (rc_plus W0 B sv y _ _ h2 (rcU u y (by omega) h3)).congr (fun M q => by simp only [raU]) (by simp only [rzU])
  | .opt u, x, hz, h => by
    unfold RnU at h
    simp only [szU] at hz
    obtain ⟨sv, y, rfl, h2, h3⟩ := h
    have hu := rcU u y (by omega) h3
    have he : RC W0 B (nodeC 2 noF false nilS) (conI []) (sumI []) := rc_concat W0 B nilS [] (RRow.nil _ _) (fun t ht => by simp at ht) (by simp)
    have hall : AllC W0 B [(nodeC 2 noF false nilS, conI [], sumI []), (y, raU u, rzU u)] := fun t ht => by
      simp only [List.mem_cons, List.not_mem_nil, or_false] at ht
      rcases ht with rfl | rfl
      · exact he
      · exact hu
    exact (rc_either W0 B sv [(nodeC 2 noF false nilS, conI [], sumI []), (y, raU u, rzU u)] h2 hall (by simp)).congr (fun M q => by simp [raU, eiF, eiL, conI]) (by simp [rzU, sumI])
theorem rcA {W0 : World} {B : Nat} : ∀ (a : As) (xs : List (Array Value)), szA a ≤ 900 → RnA (fun k => k < B) W0 a xs → ∃ l : List CI, l.map (·.1) = xs ∧ AllC W0 B l ∧ (∀ M q, eiL l M q = raL a M q) ∧ sumI l = rzA a ∧ l.length ≤ szA a + 1
  | .one s, xs, hz, h => by
    unfold RnA at h
    simp only [szA] at hz
    obtain ⟨x, sv, ys, rfl, rfl, h3, h4⟩ := h
    obtain ⟨l, g1, g2, g3, g4, g5⟩ := rcS s ys (by omega) h4
    have hc := rc_concat W0 B sv l (by rw [g1]; exact h3) g2 (by omega)
    refine ⟨[(nodeC 2 noF false sv, conI l, sumI l)], rfl, fun t ht => ?_, fun M q => ?_, ?_, by simp⟩
    · rw [List.mem_singleton] at ht
      subst ht
      exact hc
    · simp only [eiL, raL, g3]
    · simp only [sumI, rzA, g4]; omega
  | .more s a, xs, hz, h => by
    unfold RnA at h
    simp only [szA] at hz
    obtain ⟨x, zs, sv, ys, rfl, rfl, h3, h4, h5⟩ := h
    obtain ⟨l, g1, g2, g3, g4, g5⟩ := rcS s ys (by omega) h4
    have hc := rc_concat W0 B sv l (by rw [g1]; exact h3) g2 (by omega)
    obtain ⟨l2, k1, k2, k3, k4, k5⟩ := rcA a zs (by omega) h5
    refine ⟨(nodeC 2 noF false sv, conI l, sumI l) :: l2, by rw [List.map_cons, k1], fun t ht => ?_, fun M q => ?_, ?_, by simp only [List.length_cons, szA]; omega⟩
    · rcases List.mem_cons.1 ht with rfl | ht
      · exact hc
      · exact k2 t ht
    · simp only [eiL, raL, g3, k3]
    · simp only [sumI, rzA, g4, k4]
theorem rcS {W0 : World} {B : Nat} : ∀ (s : Ss) (ys : List (Array Value)), szS s ≤ 900 → RnS (fun k => k < B) W0 s ys → ∃ l : List CI, l.map (·.1) = ys ∧ AllC W0 B l ∧ (∀ M q, conI l M q = raS s M q) ∧ sumI l = rzS s ∧ l.length ≤ szS s
  | .nil, ys, _, h => by
    unfold RnS at h
    subst h
    exact ⟨[], rfl, fun t ht => by simp at ht, fun M q => by simp only [conI, raS], by simp only [sumI, rzS], by simp⟩
  | .cons u s, ys, hz, h => by
    unfold RnS at h
    simp only [szS] at hz
    obtain ⟨x, zs, rfl, h1, h2⟩ := h
    have hu := rcU u x (by omega) h1
    obtain ⟨l, g1, g2, g3, g4, g5⟩ := rcS s zs (by omega) h2
    have hp := szU_byte_pos u
    refine ⟨(x, raU u, rzU u) :: l, by rw [List.map_cons, g1], fun t ht => ?_, fun M q => ?_, ?_, by simp only [List.length_cons, szS]; omega⟩
    · rcases List.mem_cons.1 ht with rfl | ht
      · exact hu
      · exact g2 t ht
    · simp only [conI, raS, g3]
    · simp only [sumI, rzS, g4]
end
end Go.Proofs.Ytheblleadjbndaa
