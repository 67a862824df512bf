/- The reference's walks: atom. -/
import Derived.Test.YthckgmbadmilfaaGreatMBL
namespace Go.Proofs.YthckgmbadmilfaaGreat
open Go.RowKit Rx
theorem rnU_move {W w0 w1 w2 : World} {u : U} {x : Array Value} (h : RnU (Fresh w0 w1) w1 u x) (hW : W.heap.size ≤ w0.heap.size) (hs : ∀ k, w0.heap.size ≤ k → k < w1.heap.size → w2.heap[k]? = w1.heap[k]?) (hsz : w1.heap.size ≤ w2.heap.size) : RnU (Fresh W w2) w2 u x :=
  RnU.same (fun k hk => hs k hk.1 hk.2) (fun _ hk => ⟨Nat.le_trans hW hk.1, Nat.lt_of_lt_of_le hk.2 hsz⟩) u x h
/-- What expression hands back, as a factor. -/
def grpRes (x : Option (As × List UInt8)) : Option (U × List UInt8) := x.map fun y => (U.grp y.1, y.2)
def RExpOK (n : Nat) : Prop := ∀ (W : World) (s : ByteArray) (i : Nat) (l : List UInt8), s.size ≤ 1000 → RP s i l → 4 * l.length + 3 ≤ n → Calls Tryz.prog 135 #[.string s, .int .i64 i] W (RUPost s W (grpRes (alts n l)))
def RAtomOK (n : Nat) : Prop := ∀ (W : World) (s : ByteArray) (i : Nat) (c : UInt8) (r : List UInt8), s.size ≤ 1000 → RP s i (c :: r) → 4 * (c :: r).length + 1 ≤ n → Calls Tryz.prog 153 #[.string s, .int .i64 i] W (RUPost s W (atom n (c :: r)))
/-- What is behind a group's expression. -/
def closeRes (a : As) : List UInt8 → Option (U × List UInt8)
  | 41 :: r => some (.grp a, r)
  | _ => none
/-- What a call finds behind the first block that a function makes. -/
structure Room (W w0 : World) : Prop where
  at_ : At w0 W.heap.size (nodeC 0 noF false nilS) 112
  below : Below W.heap.size W w0
  size : w0.heap.size = W.heap.size + 1
theorem Room.new (W : World) : Room W (W.alloc (.cells Tryz.zeroCells112 112)) :=
  ⟨by rw [← zero_node]; exact At.new W _ _, (Below.refl _ _).alloc (Nat.le_refl _) _, by show (W.heap.push _).size = _; simp⟩
theorem Room.call {W w0 w1 : World} (h : Room W w0) (hb : Below w0.heap.size w0 w1) : At w1 W.heap.size (nodeC 0 noF false nilS) 112 ∧ Below W.heap.size W w1 := ⟨h.at_.below hb, h.below.trans (hb.mono h.below.size)⟩

set_option maxRecDepth 100000 in
set_option maxHeartbeats 2000000 in
theorem ratom_plain (W : World) (s : ByteArray) (i : Nat) (c : UInt8) (r : List UInt8) (hs : s.size ≤ 1000) (hrp : RP s i (c :: r)) (hc : special c = false) : Calls Tryz.prog 153 #[.string s, .int .i64 i] W (RUPost s W (some (.byte c, r))) := by
  have HS := Lib.hid hs
  have HRP := Lib.hid hrp
  have hlt := hrp.lt
  have hget : s[i]'hlt = c := hrp.get
  have HN := Lib.hid hrp.next
  have hil : (i : Int) ≤ 1000 := by omega
  have hsl : (s.size : Int) ≤ 1000 := by omega
  have hlti : (i : Int) < (s.size : Int) := by omega
  have HSP := Lib.hid (rspecial_any c)
  have HRM := Lib.hid (Room.new W)
  have HSI := Lib.hid (rsingle_any c)
  rw [hc] at HSP
  clear hs hrp hc
  go_enter Tryz.func153, Tryz.ntmps153
  go_upto_region 1 with fail
  generalize W.alloc (.cells Tryz.zeroCells112 112) = w0 at *
  go_wp2_with fail
  refine (HSP.out _).mono ?_
  rintro e w' ⟨rfl, rfl⟩
  go_wp2_with fail
  refine (HSI.out _).mono ?_
  rintro e w1 ⟨rfl, hb⟩
  have H1 := Lib.hid (HRM.out.call hb)
  clear hb
  go_wp2_with (refine wpList_store_at6 rfl 112 (.tmp 4) (.tmp 22) rfl W.heap.size _ rfl rfl 112 _ H1.out.1 (size_nodeC _ _ _ _) (by rw [nodeC_size, nodeC_size]) (nodeC_one _ _ _ _ rfl) ?_)
  intro w2 hw2
  have H2 : Hid (At w2 W.heap.size (nodeC 1 (fun x => x == c) true nilS) 112) := Lib.hid (by rw [hw2.out]; exact H1.out.1.row)
  have H3 : Hid (Below W.heap.size W w2) := Lib.hid (by rw [hw2.out]; exact below_row6 H1.out.2 _ _ (Nat.le_refl _))
  clear hw2
  go_wp2_with fail
  refine bodyPost_ret (results_node3 rfl _ _ W.heap.size 112 _ _ rfl H2.out Tryz.underlying112 rfl (size_nodeC _ _ _ _)) rfl ?_
  exact RUPost.yes _ (i + 1) rfl H3.out (by unfold RnU; rfl) ⟨HN.out.len, HN.out.rest⟩

set_option maxRecDepth 100000 in
set_option maxHeartbeats 2000000 in
theorem ratom_dot (W : World) (s : ByteArray) (i : Nat) (c : UInt8) (r : List UInt8) (hs : s.size ≤ 1000) (hrp : RP s i (c :: r)) (hc : c = 46) : Calls Tryz.prog 153 #[.string s, .int .i64 i] W (RUPost s W (some (.cls (fun _ => true), r))) := by
  subst hc
  have HS := Lib.hid hs
  have HRP := Lib.hid hrp
  have hlt := hrp.lt
  have hget : s[i]'hlt = 46 := hrp.get
  have HN := Lib.hid hrp.next
  have hil : (i : Int) ≤ 1000 := by omega
  have hsl : (s.size : Int) ≤ 1000 := by omega
  have hlti : (i : Int) < (s.size : Int) := by omega
  have HSP := Lib.hid (rspecial_any 46)
  have HRM := Lib.hid (Room.new W)
  have HBU := Lib.hid built2
  have HZ := Lib.hid zero_node
  rw [show special 46 = true from rfl] at HSP
  clear hs hrp
  go_enter Tryz.func153, Tryz.ntmps153
  go_upto_region 1 with fail
  generalize W.alloc (.cells Tryz.zeroCells112 112) = w0 at *
  go_wp2_with fail
  refine (HSP.out _).mono ?_
  rintro e w' ⟨rfl, rfl⟩
  have h1 := at_two W Tryz.zeroCells112 Tryz.zeroCells112 112 112
  have HZB : Hid (At (w0.alloc (.cells Tryz.zeroCells112 112)) (W.heap.size + 1) (nodeC 0 noF false nilS) 112) := Lib.hid (by have := At.new w0 Tryz.zeroCells112 112; rw [HRM.out.size, zero_node] at this; rw [zero_node]; exact this)
  have HZA : Hid (At (w0.alloc (.cells Tryz.zeroCells112 112)) W.heap.size (nodeC 0 noF false nilS) 112) := Lib.hid (HRM.out.at_.alloc _)
  have HZC : Hid (Below W.heap.size W (w0.alloc (.cells Tryz.zeroCells112 112))) := Lib.hid (HRM.out.below.alloc HRM.out.below.size _)
  have HZS : Hid (w0.heap.size = W.heap.size + 1) := Lib.hid HRM.out.size
  clear h1
  go_wp2_with (refine wpList_store_at6 rfl 112 (.tmp 8) (.tmp 27) rfl w0.heap.size _ rfl rfl 112 (nodeC 0 noF false nilS) (by rw [HZS.out]; exact HZB.out) (by rw [HBU.out]; exact size_nodeC _ _ _ _) (by rw [HBU.out, nodeC_size, nodeC_size]) (by rw [HBU.out]; exact nodeC_one _ _ _ _ rfl) ?_)
  intro w1 hw1
  have h1 : At w1 w0.heap.size (nodeC 1 noF false nilS) 112 := by rw [hw1.out, HBU.out, HZS.out]; exact HZB.out.row
  have h2 : At w1 W.heap.size (nodeC 0 noF false nilS) 112 := by
    rw [hw1.out]
    exact HZA.out.rowOther (by rw [HZS.out]; omega)
  have h3 : Below W.heap.size W w1 := by
    rw [hw1.out]
    exact below_row6 HZC.out _ _ (by rw [HZS.out]; omega)
  have H1 := Lib.hid h1
  have H2 := Lib.hid h2
  have H3 := Lib.hid h3
  have HNE : Hid (W.heap.size ≠ w0.heap.size ∧ W.heap.size ≤ w0.heap.size) := Lib.hid (by rw [HZS.out]; omega)
  clear hw1 h1 h2 h3 HZS HZA HZB HZC HRM
  generalize w0.heap.size = B at *
  go_wp2_with fail
  go_loopg [9] 257 (fun k iv wr => ∃ j : Nat, k = 257 - j ∧ j ≤ 256 ∧ iv = .int .i64 j ∧ At wr B (nodeC 1 (fillF (fun _ => true) j) false nilS) 112 ∧ At wr W.heap.size (nodeC 0 noF false nilS) 112 ∧ Below W.heap.size W wr)
  case atStart => exact ⟨0, rfl, by omega, rfl, by rw [fill_zero]; exact H1.out, H2.out, H3.out⟩
  case round =>
    obtain ⟨j, hk, hj, rfl, h1, h2, h3⟩ := hrel
    clear H1 H2 H3
    have H1 := Lib.hid h1
    have H2 := Lib.hid h2
    have H3 := Lib.hid h3
    clear h1 h2 h3
    have hjl : (j : Int) ≤ 256 := by omega
    by_cases hlt : j < 256
    · have hlti : (j : Int) < 256 := by omega
      have hmo : 257 - (j + 1) < gk := by omega
      have HMO := Lib.hid hmo
      have d0 : wr.cell? ⟨B, 1 + j, none⟩ = some (.bool (fillF (fun _ => true) j (UInt8.ofNat j))) := by rw [H1.out.cell, nodeC_bit _ _ _ _ _ hlt]
      have d1 : wr.frozen? ⟨B, 1 + j, none⟩ = false := H1.out.free _
      have HLT := Lib.hid hlt
      have hz : At (wr.setCell ⟨B, 1 + j, none⟩ (.bool true)) B (nodeC 1 (fillF (fun _ => true) (j + 1)) false nilS) 112 ∧ At (wr.setCell ⟨B, 1 + j, none⟩ (.bool true)) W.heap.size (nodeC 0 noF false nilS) 112 ∧ Below W.heap.size W (wr.setCell ⟨B, 1 + j, none⟩ (.bool true)) := by
        refine ⟨?_, H2.out.other _ HNE.out.1, H3.out.setCell HNE.out.2 _⟩
        rw [← nodeC_setBit 1 (fillF (fun _ => true) j) (fillF (fun _ => true) (j + 1)) false nilS j _ hlt (fun x => fill_set _ j x)]
        exact H1.out.set _ _
      have HZZ := Lib.hid hz
      clear hmo hk hz
      generalize fillF (fun _ => true) j (UInt8.ofNat j) = old at *
      go_wp2_with fail
      go_roundg (257 - (j + 1))
      case measure => exact HMO.out
      case rel => exact ⟨j + 1, rfl, by have := HLT.out; omega, rfl, HZZ.out⟩
    · have HJ : Hid (j = 256) := Lib.hid (by omega)
      have hlti : ¬ (j : Int) < 256 := by omega
      have H4 : Hid (At wr B (nodeC 1 (fun _ => true) false nilS) 112) := Lib.hid (by have := H1.out; rw [HJ.out, fill_all] at this; exact this)
      clear hk
      go_wp2_with (first | (refine wpList_load_at rfl 112 (.tmp 8) rfl B rfl 112 _ _ H4.out Tryz.underlying112 rfl (size_nodeC _ _ _ _) ?_) | (refine wpList_store_at6 rfl 112 (.tmp 4) (.tmp 35) rfl W.heap.size _ rfl rfl 112 _ H2.out (size_nodeC _ _ _ _) (by rw [nodeC_size, nodeC_size]) (nodeC_one _ _ _ _ rfl) ?_))
      intro w3 hw3
      have H6 : Hid (At w3 W.heap.size (nodeC 1 (fun _ => true) false nilS) 112) := Lib.hid (by rw [hw3.out]; exact H2.out.row)
      have H7 : Hid (Below W.heap.size W w3) := Lib.hid (by rw [hw3.out]; exact below_row6 H3.out _ _ (Nat.le_refl _))
      clear hw3
      go_wp2_with fail
      refine bodyPost_ret (results_node3 rfl _ _ W.heap.size 112 _ _ rfl H6.out Tryz.underlying112 rfl (size_nodeC _ _ _ _)) rfl ?_
      exact RUPost.yes _ (i + 1) rfl H7.out (by unfold RnU; rfl) ⟨HN.out.len, HN.out.rest⟩

set_option maxRecDepth 100000 in
set_option maxHeartbeats 2000000 in
theorem ratom_none (W : World) (s : ByteArray) (i : Nat) (c : UInt8) (r : List UInt8) (hs : s.size ≤ 1000) (hrp : RP s i (c :: r)) (hc : special c = true) (h1 : c ≠ 46) (h2 : c = 92 → r = []) (h3 : c ≠ 91) (h4 : c ≠ 40) : Calls Tryz.prog 153 #[.string s, .int .i64 i] W (RUPost s W none) := by
  have HS := Lib.hid hs
  have HRP := Lib.hid hrp
  have hlt := hrp.lt
  have hget : s[i]'hlt = c := hrp.get
  have HN := Lib.hid hrp.next
  have hil : (i : Int) ≤ 1000 := by omega
  have hsl : (s.size : Int) ≤ 1000 := by omega
  have hlti : (i : Int) < (s.size : Int) := by omega
  have HSP := Lib.hid (rspecial_any c)
  have HRM := Lib.hid (Room.new W)
  have HZ := Lib.hid zero_node
  rw [hc] at HSP
  have d1 : ((c.toNat : Int) == 46) = false := u8_ne h1
  have d3 : ((c.toNat : Int) == 91) = false := u8_ne h3
  have d4 : ((c.toNat : Int) != 40) = true := by rw [bne_iff_ne]; exact beq_eq_false_iff_ne.1 (u8_ne h4)
  by_cases h92 : c = 92
  · obtain rfl := h2 h92
    have d2 : ((c.toNat : Int) == 92) = true := by rw [h92]; rfl
    have d5 : ¬ (i : Int) + 1 < (s.size : Int) := by have := HN.out.nil; omega
    clear hs hrp hc h1 h2 h3 h4 h92
    go_enter Tryz.func153, Tryz.ntmps153
    go_upto_region 1 with fail
    generalize W.alloc (.cells Tryz.zeroCells112 112) = w0 at *
    go_wp2_with fail
    refine (HSP.out _).mono ?_
    rintro e w' ⟨rfl, rfl⟩
    have HFA := Lib.hid (And.intro HRM.out.at_ HRM.out.below)
    go_wp2_with (refine wpList_store_at6 rfl 112 (.tmp 4) (.tmp 93) rfl W.heap.size _ rfl rfl 112 _ HFA.out.1 (by rw [HZ.out]; exact size_nodeC _ _ _ _) (by rw [HZ.out]) (by rw [HZ.out]; exact nodeC_one _ _ _ _ rfl) ?_)
    intro w2 hw2
    have H2 : Hid (At w2 W.heap.size (nodeC 0 noF false nilS) 112) := Lib.hid (by rw [hw2.out]; have := HFA.out.1.row (c' := Tryz.zeroCells112); rwa [HZ.out] at this ⊢)
    have H3 : Hid (Below W.heap.size W w2) := Lib.hid (by rw [hw2.out]; exact below_row6 HFA.out.2 _ _ (Nat.le_refl _))
    clear hw2
    go_wp2_with fail
    refine bodyPost_ret (results_node3 rfl _ _ W.heap.size 112 _ _ rfl H2.out Tryz.underlying112 rfl (size_nodeC _ _ _ _)) rfl ?_
    exact RUPost.no _ _ rfl H3.out (NV.node _ _ _ _ rfl)
  · have d2 : ((c.toNat : Int) == 92) = false := u8_ne h92
    clear hs hrp hc h1 h2 h3 h4 h92
    go_enter Tryz.func153, Tryz.ntmps153
    go_upto_region 1 with fail
    generalize W.alloc (.cells Tryz.zeroCells112 112) = w0 at *
    go_wp2_with fail
    refine (HSP.out _).mono ?_
    rintro e w' ⟨rfl, rfl⟩
    have HFA := Lib.hid (And.intro HRM.out.at_ HRM.out.below)
    go_wp2_with (refine wpList_store_at6 rfl 112 (.tmp 4) (.tmp 93) rfl W.heap.size _ rfl rfl 112 _ HFA.out.1 (by rw [HZ.out]; exact size_nodeC _ _ _ _) (by rw [HZ.out]) (by rw [HZ.out]; exact nodeC_one _ _ _ _ rfl) ?_)
    intro w2 hw2
    have H2 : Hid (At w2 W.heap.size (nodeC 0 noF false nilS) 112) := Lib.hid (by rw [hw2.out]; have := HFA.out.1.row (c' := Tryz.zeroCells112); rwa [HZ.out] at this ⊢)
    have H3 : Hid (Below W.heap.size W w2) := Lib.hid (by rw [hw2.out]; exact below_row6 HFA.out.2 _ _ (Nat.le_refl _))
    clear hw2
    go_wp2_with fail
    refine bodyPost_ret (results_node3 rfl _ _ W.heap.size 112 _ _ rfl H2.out Tryz.underlying112 rfl (size_nodeC _ _ _ _)) rfl ?_
    exact RUPost.no _ _ rfl H3.out (NV.node _ _ _ _ rfl)

set_option maxRecDepth 100000 in
set_option maxHeartbeats 2000000 in
theorem ratom_esc (W : World) (s : ByteArray) (i : Nat) (c : UInt8) (r : List UInt8) (hs : s.size ≤ 1000) (hrp : RP s i (c :: r)) (d : UInt8) (r' : List UInt8) (hc : c = 92) (hr : r = d :: r') : Calls Tryz.prog 153 #[.string s, .int .i64 i] W (RUPost s W ((escU d).map fun u => (u, r'))) := by
  subst hc hr
  have HS := Lib.hid hs
  have HRP := Lib.hid hrp
  have hlt := hrp.lt
  have hget : s[i]'hlt = 92 := hrp.get
  have HN := Lib.hid hrp.next
  have hil : (i : Int) ≤ 1000 := by omega
  have hsl : (s.size : Int) ≤ 1000 := by omega
  have hlti : (i : Int) < (s.size : Int) := by omega
  have HSP := Lib.hid (rspecial_any 92)
  have HRM := Lib.hid (Room.new W)
  rw [show special 92 = true from rfl] at HSP
  have hlt2 := HN.out.lt
  have hget2 : s[i + 1]'hlt2 = d := HN.out.get
  have HN2 := Lib.hid HN.out.next
  have d5 : (i : Int) + 1 < (s.size : Int) := by omega
  have HES := Lib.hid (rescape_any d)
  have HZ := Lib.hid zero_node
  clear hs hrp
  go_enter Tryz.func153, Tryz.ntmps153
  go_upto_region 1 with fail
  generalize W.alloc (.cells Tryz.zeroCells112 112) = w0 at *
  go_wp2_with fail
  refine (HSP.out _).mono ?_
  rintro e w' ⟨rfl, rfl⟩
  go_wp2_with fail
  refine (HES.out _).mono ?_
  rintro e w1 ⟨hb, hres⟩
  have HC := Lib.hid (HRM.out.call hb)
  have HSZ : Hid (W.heap.size + 1 ≤ w1.heap.size) := Lib.hid (by have := hb.size; rw [HRM.out.size] at this; exact this)
  obtain ⟨x, ok, rfl, hnv, hfin⟩ : ∃ (x : Array Value) (ok : Bool), e = .returned (.tuple #[.agg x, .bool ok]) ∧ NV x ∧ ∀ w', Below W.heap.size W w' → RUPost s W ((escU d).map fun u => (u, r')) (.returned (.tuple #[.agg x, .int .i64 ((i + 2 : Nat) : Int), .bool ok])) w' := by
    rcases he : escU d with _ | u
    · rw [he] at hres
      obtain ⟨x, hx, rfl⟩ := hres
      exact ⟨x, false, rfl, hx, fun w' hw => RUPost.no x _ rfl hw hx⟩
    · rw [he] at hres
      obtain ⟨x, hx, hn, rfl⟩ := hres
      exact ⟨x, true, rfl, hn, fun w' hw => RUPost.yes x (i + 2) rfl hw (hx _ _) ⟨HN2.out.len, HN2.out.rest⟩⟩
  have HNV := Lib.hid hnv
  have HFIN := Lib.hid hfin
  have HW1 : Hid (At (w1.alloc (.cells Tryz.zeroCells112 112)) w1.heap.size (nodeC 0 noF false nilS) 112) := Lib.hid (by rw [zero_node]; exact At.new w1 _ _)
  have HW2 : Hid (At (w1.alloc (.cells Tryz.zeroCells112 112)) W.heap.size (nodeC 0 noF false nilS) 112 ∧ Below W.heap.size W (w1.alloc (.cells Tryz.zeroCells112 112))) := Lib.hid ⟨HC.out.1.alloc _, HC.out.2.alloc HC.out.2.size _⟩
  clear hb hres hnv hfin
  go_wp2_with (refine wpList_store_at6 rfl 112 (.tmp 10) (.tmp 53) rfl w1.heap.size x rfl rfl 112 _ HW1.out HNV.out.info (by rw [nodeC_size, HNV.out.size]) HNV.out.one ?_)
  intro w2 hw2
  have H4 : Hid (At w2 w1.heap.size x 112) := Lib.hid (by rw [hw2.out]; exact HW1.out.row)
  have H5 : Hid (At w2 W.heap.size (nodeC 0 noF false nilS) 112) := Lib.hid (by rw [hw2.out]; exact HW2.out.1.rowOther (by have := HSZ.out; omega))
  have H6 : Hid (Below W.heap.size W w2) := Lib.hid (by rw [hw2.out]; exact below_row6 HW2.out.2 _ _ (by have := HSZ.out; omega))
  clear hw2 HW1 HW2
  generalize w1.heap.size = B at *
  go_wp2_with (first | (refine wpList_load_at rfl 112 (.tmp 10) rfl B rfl 112 _ _ H4.out Tryz.underlying112 rfl HNV.out.info ?_) | (refine wpList_store_at6 rfl 112 (.tmp 4) (.tmp 55) rfl W.heap.size _ rfl rfl 112 _ H5.out HNV.out.info (by rw [nodeC_size, HNV.out.size]) HNV.out.one ?_))
  intro w3 hw3
  have H7 : Hid (At w3 W.heap.size x 112) := Lib.hid (by rw [hw3.out]; exact H5.out.row)
  have H8 : Hid (Below W.heap.size W w3) := Lib.hid (by rw [hw3.out]; exact below_row6 H6.out _ _ (Nat.le_refl _))
  clear hw3
  go_wp2_with fail
  refine bodyPost_ret (results_node3 rfl _ _ W.heap.size 112 _ _ rfl H7.out Tryz.underlying112 rfl HNV.out.info) rfl ?_
  exact HFIN.out _ H8.out

set_option maxRecDepth 100000 in
set_option maxHeartbeats 2000000 in
theorem ratom_inv (W : World) (s : ByteArray) (i : Nat) (c : UInt8) (r : List UInt8) (hs : s.size ≤ 1000) (hrp : RP s i (c :: r)) (r' : List UInt8) (hc : c = 91) (hr : r = 94 :: r') : Calls Tryz.prog 153 #[.string s, .int .i64 i] W (RUPost s W (brRes true (items (r'.length + 1) noF r'))) := by
  subst hc
  subst hr
  have HS := Lib.hid hs
  have HRP := Lib.hid hrp
  have hlt := hrp.lt
  have hget : s[i]'hlt = 91 := hrp.get
  have HN := Lib.hid hrp.next
  have hil : (i : Int) ≤ 1000 := by omega
  have hsl : (s.size : Int) ≤ 1000 := by omega
  have hlti : (i : Int) < (s.size : Int) := by omega
  have HSP := Lib.hid (rspecial_any 91)
  have HRM := Lib.hid (Room.new W)
  rw [show special 91 = true from rfl] at HSP
  have hlt2 := HN.out.lt
  have hget2 : s[i + 1]'hlt2 = 94 := HN.out.get
  have d5 : (i : Int) + 1 < (s.size : Int) := by omega
  have HBR : Hid (∀ w, Calls Tryz.prog 166 #[.string s, .int .i64 ((i : Int) + 2), .bool true] w (RUPost s w (brRes true (items (r'.length + 1) noF r')))) := Lib.hid (fun w => rbrackets_any s (i + 2) r' true w hs HN.out.next)
  clear hs hrp
  go_enter Tryz.func153, Tryz.ntmps153
  go_upto_region 1 with fail
  generalize W.alloc (.cells Tryz.zeroCells112 112) = w0 at *
  go_wp2_with fail
  refine (HSP.out _).mono ?_
  rintro e w' ⟨rfl, rfl⟩
  go_wp2_with fail
  refine (HBR.out _).mono ?_
  rintro e w1 ⟨hb, hres⟩
  have HC := Lib.hid (HRM.out.call hb)
  obtain ⟨x, j, ok, rfl, hnv, hfin⟩ : ∃ (x : Array Value) (j : Int) (ok : Bool), e = .returned (.tuple #[.agg x, .int .i64 j, .bool ok]) ∧ NV x ∧ ∀ y, RUPost s W (brRes true (items (r'.length + 1) noF r')) (.returned (.tuple #[.agg x, .int .i64 j, .bool ok])) (w1.setRow W.heap.size y) := by
    have hbw : ∀ y, Below W.heap.size W (w1.setRow W.heap.size y) := fun y => below_row6 HC.out.2 _ _ (Nat.le_refl _)
    rcases he : (brRes true (items (r'.length + 1) noF r')) with _ | ⟨u, l'⟩
    · rw [he] at hres
      obtain ⟨x, j, hx, rfl⟩ := hres
      exact ⟨x, j, false, rfl, hx, fun y => RUPost.no x _ rfl (hbw y) hx⟩
    · rw [he] at hres
      obtain ⟨x, j, hx, hj, rfl⟩ := hres
      exact ⟨x, j, true, rfl, hx.nv, fun y => RUPost.yes x j rfl (hbw y) (rnU_move hx (by rw [HRM.out.size]; omega) (fun k hk _ => by rw [setRow_other w1 _ _ _ (by rw [HRM.out.size] at hk; omega)]) (by rw [size_setRow]; exact Nat.le_refl _)) hj⟩
  have HNV := Lib.hid hnv
  have HFIN := Lib.hid hfin
  clear hb hres hnv hfin
  go_wp2_with (refine wpList_store_at6 rfl 112 (.tmp 4) (.tmp 79) rfl W.heap.size x rfl rfl 112 _ HC.out.1 HNV.out.info (by rw [nodeC_size, HNV.out.size]) HNV.out.one ?_)
  intro w2 hw2
  have H7 : Hid (At w2 W.heap.size x 112) := Lib.hid (by rw [hw2.out]; exact HC.out.1.row)
  go_wp2_with fail
  refine bodyPost_ret (results_node3 rfl _ _ W.heap.size 112 _ _ rfl H7.out Tryz.underlying112 rfl HNV.out.info) rfl ?_
  rw [hw2.out]
  exact HFIN.out _

set_option maxRecDepth 100000 in
set_option maxHeartbeats 2000000 in
theorem ratom_cls0 (W : World) (s : ByteArray) (i : Nat) (c : UInt8) (r : List UInt8) (hs : s.size ≤ 1000) (hrp : RP s i (c :: r)) (hc : c = 91) (hr : r = []) : Calls Tryz.prog 153 #[.string s, .int .i64 i] W (RUPost s W (brRes false (items (r.length + 1) noF r))) := by
  subst hc
  have HS := Lib.hid hs
  have HRP := Lib.hid hrp
  have hlt := hrp.lt
  have hget : s[i]'hlt = 91 := hrp.get
  have HN := Lib.hid hrp.next
  have hil : (i : Int) ≤ 1000 := by omega
  have hsl : (s.size : Int) ≤ 1000 := by omega
  have hlti : (i : Int) < (s.size : Int) := by omega
  have HSP := Lib.hid (rspecial_any 91)
  have HRM := Lib.hid (Room.new W)
  rw [show special 91 = true from rfl] at HSP
  have d5 : ¬ (i : Int) + 1 < (s.size : Int) := by subst hr; have := HN.out.nil; omega
  clear hr
  have HBR : Hid (∀ w, Calls Tryz.prog 166 #[.string s, .int .i64 ((i : Int) + 1), .bool false] w (RUPost s w (brRes false (items (r.length + 1) noF r)))) := Lib.hid (fun w => rbrackets_any s (i + 1) r false w hs HN.out)
  clear hs hrp
  go_enter Tryz.func153, Tryz.ntmps153
  go_upto_region 1 with fail
  generalize W.alloc (.cells Tryz.zeroCells112 112) = w0 at *
  go_wp2_with fail
  refine (HSP.out _).mono ?_
  rintro e w' ⟨rfl, rfl⟩
  go_wp2_with fail
  refine (HBR.out _).mono ?_
  rintro e w1 ⟨hb, hres⟩
  have HC := Lib.hid (HRM.out.call hb)
  obtain ⟨x, j, ok, rfl, hnv, hfin⟩ : ∃ (x : Array Value) (j : Int) (ok : Bool), e = .returned (.tuple #[.agg x, .int .i64 j, .bool ok]) ∧ NV x ∧ ∀ y, RUPost s W (brRes false (items (r.length + 1) noF r)) (.returned (.tuple #[.agg x, .int .i64 j, .bool ok])) (w1.setRow W.heap.size y) := by
    have hbw : ∀ y, Below W.heap.size W (w1.setRow W.heap.size y) := fun y => below_row6 HC.out.2 _ _ (Nat.le_refl _)
    rcases he : (brRes false (items (r.length + 1) noF r)) with _ | ⟨u, l'⟩
    · rw [he] at hres
      obtain ⟨x, j, hx, rfl⟩ := hres
      exact ⟨x, j, false, rfl, hx, fun y => RUPost.no x _ rfl (hbw y) hx⟩
    · rw [he] at hres
      obtain ⟨x, j, hx, hj, rfl⟩ := hres
      exact ⟨x, j, true, rfl, hx.nv, fun y => RUPost.yes x j rfl (hbw y) (rnU_move hx (by rw [HRM.out.size]; omega) (fun k hk _ => by rw [setRow_other w1 _ _ _ (by rw [HRM.out.size] at hk; omega)]) (by rw [size_setRow]; exact Nat.le_refl _)) hj⟩
  have HNV := Lib.hid hnv
  have HFIN := Lib.hid hfin
  clear hb hres hnv hfin
  go_wp2_with (refine wpList_store_at6 rfl 112 (.tmp 4) (.tmp 88) rfl W.heap.size x rfl rfl 112 _ HC.out.1 HNV.out.info (by rw [nodeC_size, HNV.out.size]) HNV.out.one ?_)
  intro w2 hw2
  have H7 : Hid (At w2 W.heap.size x 112) := Lib.hid (by rw [hw2.out]; exact HC.out.1.row)
  go_wp2_with fail
  refine bodyPost_ret (results_node3 rfl _ _ W.heap.size 112 _ _ rfl H7.out Tryz.underlying112 rfl HNV.out.info) rfl ?_
  rw [hw2.out]
  exact HFIN.out _

set_option maxRecDepth 100000 in
set_option maxHeartbeats 2000000 in
theorem ratom_cls1 (W : World) (s : ByteArray) (i : Nat) (c : UInt8) (r : List UInt8) (hs : s.size ≤ 1000) (hrp : RP s i (c :: r)) (d : UInt8) (r' : List UInt8) (hc : c = 91) (hr : r = d :: r') (hd : d ≠ 94) : Calls Tryz.prog 153 #[.string s, .int .i64 i] W (RUPost s W (brRes false (items (r.length + 1) noF r))) := by
  subst hc
  have HS := Lib.hid hs
  have HRP := Lib.hid hrp
  have hlt := hrp.lt
  have hget : s[i]'hlt = 91 := hrp.get
  have HN := Lib.hid hrp.next
  have hil : (i : Int) ≤ 1000 := by omega
  have hsl : (s.size : Int) ≤ 1000 := by omega
  have hlti : (i : Int) < (s.size : Int) := by omega
  have HSP := Lib.hid (rspecial_any 91)
  have HRM := Lib.hid (Room.new W)
  rw [show special 91 = true from rfl] at HSP
  have HN1 : Hid (RP s (i + 1) (d :: r')) := Lib.hid (by rw [← hr]; exact HN.out)
  have hlt2 := HN1.out.lt
  have hget2 : s[i + 1]'hlt2 = d := HN1.out.get
  have d5 : (i : Int) + 1 < (s.size : Int) := by omega
  have d6 : ((d.toNat : Int) == 94) = false := u8_ne hd
  clear hr hd
  have HBR : Hid (∀ w, Calls Tryz.prog 166 #[.string s, .int .i64 ((i : Int) + 1), .bool false] w (RUPost s w (brRes false (items (r.length + 1) noF r)))) := Lib.hid (fun w => rbrackets_any s (i + 1) r false w hs HN.out)
  clear hs hrp
  go_enter Tryz.func153, Tryz.ntmps153
  go_upto_region 1 with fail
  generalize W.alloc (.cells Tryz.zeroCells112 112) = w0 at *
  go_wp2_with fail
  refine (HSP.out _).mono ?_
  rintro e w' ⟨rfl, rfl⟩
  go_wp2_with fail
  refine (HBR.out _).mono ?_
  rintro e w1 ⟨hb, hres⟩
  have HC := Lib.hid (HRM.out.call hb)
  obtain ⟨x, j, ok, rfl, hnv, hfin⟩ : ∃ (x : Array Value) (j : Int) (ok : Bool), e = .returned (.tuple #[.agg x, .int .i64 j, .bool ok]) ∧ NV x ∧ ∀ y, RUPost s W (brRes false (items (r.length + 1) noF r)) (.returned (.tuple #[.agg x, .int .i64 j, .bool ok])) (w1.setRow W.heap.size y) := by
    have hbw : ∀ y, Below W.heap.size W (w1.setRow W.heap.size y) := fun y => below_row6 HC.out.2 _ _ (Nat.le_refl _)
    rcases he : (brRes false (items (r.length + 1) noF r)) with _ | ⟨u, l'⟩
    · rw [he] at hres
      obtain ⟨x, j, hx, rfl⟩ := hres
      exact ⟨x, j, false, rfl, hx, fun y => RUPost.no x _ rfl (hbw y) hx⟩
    · rw [he] at hres
      obtain ⟨x, j, hx, hj, rfl⟩ := hres
      exact ⟨x, j, true, rfl, hx.nv, fun y => RUPost.yes x j rfl (hbw y) (rnU_move hx (by rw [HRM.out.size]; omega) (fun k hk _ => by rw [setRow_other w1 _ _ _ (by rw [HRM.out.size] at hk; omega)]) (by rw [size_setRow]; exact Nat.le_refl _)) hj⟩
  have HNV := Lib.hid hnv
  have HFIN := Lib.hid hfin
  clear hb hres hnv hfin
  go_wp2_with (refine wpList_store_at6 rfl 112 (.tmp 4) (.tmp 88) rfl W.heap.size x rfl rfl 112 _ HC.out.1 HNV.out.info (by rw [nodeC_size, HNV.out.size]) HNV.out.one ?_)
  intro w2 hw2
  have H7 : Hid (At w2 W.heap.size x 112) := Lib.hid (by rw [hw2.out]; exact HC.out.1.row)
  go_wp2_with fail
  refine bodyPost_ret (results_node3 rfl _ _ W.heap.size 112 _ _ rfl H7.out Tryz.underlying112 rfl HNV.out.info) rfl ?_
  rw [hw2.out]
  exact HFIN.out _

set_option maxRecDepth 100000 in
set_option maxHeartbeats 2000000 in
theorem ratom_grp (W : World) (s : ByteArray) (i : Nat) (c : UInt8) (r : List UInt8) (hs : s.size ≤ 1000) (hrp : RP s i (c :: r)) (n : Nat) (hc : c = 40) (hA : RExpOK n) (hn : 4 * r.length + 3 ≤ n) : Calls Tryz.prog 153 #[.string s, .int .i64 i] W (RUPost s W ((alts n r).bind fun y => closeRes y.1 y.2)) := by
  subst hc
  obtain ⟨R, hR⟩ : ∃ R, ((alts n r).bind fun y => closeRes y.1 y.2) = R := ⟨_, rfl⟩
  rw [hR]
  have HRR := Lib.hid hR
  clear hR
  have HS := Lib.hid hs
  have HRP := Lib.hid hrp
  have hlt := hrp.lt
  have hget : s[i]'hlt = 40 := hrp.get
  have HN := Lib.hid hrp.next
  have hil : (i : Int) ≤ 1000 := by omega
  have hsl : (s.size : Int) ≤ 1000 := by omega
  have hlti : (i : Int) < (s.size : Int) := by omega
  have HSP := Lib.hid (rspecial_any 40)
  have HRM := Lib.hid (Room.new W)
  rw [show special 40 = true from rfl] at HSP
  have HEX : Hid (∀ w, Calls Tryz.prog 135 #[.string s, .int .i64 ((i : Int) + 1)] w (RUPost s w (grpRes (alts n r)))) := Lib.hid (fun w => hA w s (i + 1) r hs HN.out hn)
  have HZ := Lib.hid zero_node
  clear hs hrp hA hn
  go_enter Tryz.func153, Tryz.ntmps153
  go_upto_region 1 with fail
  generalize W.alloc (.cells Tryz.zeroCells112 112) = w0 at *
  go_wp2_with fail
  refine (HSP.out _).mono ?_
  rintro e w' ⟨rfl, rfl⟩
  go_wp2_with fail
  refine (HEX.out _).mono ?_
  rintro e w1 ⟨hb, hres⟩
  have HC := Lib.hid (HRM.out.call hb)
  have HSZ : Hid (W.heap.size + 1 ≤ w1.heap.size) := Lib.hid (by have := hb.size; rw [HRM.out.size] at this; exact this)
  have HWS : Hid (w0.heap.size = W.heap.size + 1) := Lib.hid HRM.out.size
  have HW1 : Hid (At (w1.alloc (.cells Tryz.zeroCells112 112)) w1.heap.size (nodeC 0 noF false nilS) 112) := Lib.hid (by rw [zero_node]; exact At.new w1 _ _)
  have HW2 : Hid (At (w1.alloc (.cells Tryz.zeroCells112 112)) W.heap.size (nodeC 0 noF false nilS) 112 ∧ Below W.heap.size W (w1.alloc (.cells Tryz.zeroCells112 112))) := Lib.hid ⟨HC.out.1.alloc _, HC.out.2.alloc HC.out.2.size _⟩
  clear hb
  rcases ha : alts n r with _ | ⟨a, r1⟩
  · rw [ha] at hres
    obtain ⟨x, j, hnv, rfl⟩ := hres
    have HNV := Lib.hid hnv
    have HNO : Hid (R = none) := Lib.hid (by rw [← HRR.out, ha]; rfl)
    clear ha hnv
    go_wp2_with (refine wpList_store_at6 rfl 112 (.tmp 12) (.tmp 100) rfl w1.heap.size x rfl rfl 112 _ HW1.out HNV.out.info (by rw [nodeC_size, HNV.out.size]) HNV.out.one ?_)
    intro w2 hw2
    have HFA : Hid (At w2 W.heap.size (nodeC 0 noF false nilS) 112 ∧ Below W.heap.size W w2) := Lib.hid (by
      refine ⟨?_, ?_⟩
      · rw [hw2.out]; exact HW2.out.1.rowOther (by have := HSZ.out; omega)
      · rw [hw2.out]; exact below_row6 HW2.out.2 _ _ (by have := HSZ.out; omega))
    clear hw2 HW1 HW2
    generalize w1.heap.size = B at *
    go_wp2_with (refine wpList_store_at6 rfl 112 (.tmp 4) (.tmp 117) rfl W.heap.size _ rfl rfl 112 _ HFA.out.1 (by rw [HZ.out]; exact size_nodeC _ _ _ _) (by rw [HZ.out]) (by rw [HZ.out]; exact nodeC_one _ _ _ _ rfl) ?_)
    intro w2 hw2
    have H2 : Hid (At w2 W.heap.size (nodeC 0 noF false nilS) 112) := Lib.hid (by rw [hw2.out]; have := HFA.out.1.row (c' := Tryz.zeroCells112); rwa [HZ.out] at this ⊢)
    have H3 : Hid (Below W.heap.size W w2) := Lib.hid (by rw [hw2.out]; exact below_row6 HFA.out.2 _ _ (Nat.le_refl _))
    clear hw2
    go_wp2_with fail
    refine bodyPost_ret (results_node3 rfl _ _ W.heap.size 112 _ _ rfl H2.out Tryz.underlying112 rfl (size_nodeC _ _ _ _)) rfl ?_
    exact RUPost.no _ _ HNO.out H3.out (NV.node _ _ _ _ rfl)
  · rw [ha] at hres
    obtain ⟨x, j, hx, ⟨hj1, hj2⟩, rfl⟩ := hres
    have hnv := hx.nv
    have HNV := Lib.hid hnv
    have HRX := Lib.hid hx
    have hjp : RP s j r1 := ⟨by omega, hj2⟩
    have hjl : (j : Int) ≤ 1000 := by omega
    have HRS : Hid (R = closeRes a r1) := Lib.hid (by rw [← HRR.out, ha]; rfl)
    clear ha hnv hx hj1 hj2 HRR
    go_wp2_with (refine wpList_store_at6 rfl 112 (.tmp 12) (.tmp 100) rfl w1.heap.size x rfl rfl 112 _ HW1.out HNV.out.info (by rw [nodeC_size, HNV.out.size]) HNV.out.one ?_)
    intro w2 hw2
    have HFA : Hid (At w2 W.heap.size (nodeC 0 noF false nilS) 112 ∧ Below W.heap.size W w2) := Lib.hid (by
      refine ⟨?_, ?_⟩
      · rw [hw2.out]; exact HW2.out.1.rowOther (by have := HSZ.out; omega)
      · rw [hw2.out]; exact below_row6 HW2.out.2 _ _ (by have := HSZ.out; omega))
    have HX2 : Hid (At w2 w1.heap.size x 112) := Lib.hid (by rw [hw2.out]; exact HW1.out.row)
    have HS2 : Hid (∀ (y : Array Value) (k : Nat), w0.heap.size ≤ k → k < w1.heap.size → (w2.setRow W.heap.size y).heap[k]? = w1.heap[k]?) := Lib.hid (fun y k hk1 hk2 => by
      rw [setRow_other w2 _ _ _ (by have := HWS.out; omega), hw2.out, setRow_other _ _ _ _ (by omega), Below.heap_alloc _ _ _ hk2])
    have HS3 : Hid (∀ y : Array Value, w1.heap.size ≤ (w2.setRow W.heap.size y).heap.size) := Lib.hid (fun y => by
      rw [size_setRow, hw2.out, size_setRow]; show w1.heap.size ≤ (w1.heap.push _).size; simp)
    clear hw2 HW1 HW2
    rcases r1 with _ | ⟨c2, r2⟩
    · have d5 : (j : Int) ≥ (s.size : Int) := by have := hjp.nil; omega
      have d5n : s.size ≤ j := by have := hjp.nil; omega
      have HNO : Hid (R = none) := Lib.hid (by rw [HRS.out]; rfl)
      clear hjp HS2 HS3 HX2
      generalize w1.heap.size = B at *
      go_wp2_with (refine wpList_store_at6 rfl 112 (.tmp 4) (.tmp 117) rfl W.heap.size _ rfl rfl 112 _ HFA.out.1 (by rw [HZ.out]; exact size_nodeC _ _ _ _) (by rw [HZ.out]) (by rw [HZ.out]; exact nodeC_one _ _ _ _ rfl) ?_)
      intro w2 hw2
      have H2 : Hid (At w2 W.heap.size (nodeC 0 noF false nilS) 112) := Lib.hid (by rw [hw2.out]; have := HFA.out.1.row (c' := Tryz.zeroCells112); rwa [HZ.out] at this ⊢)
      have H3 : Hid (Below W.heap.size W w2) := Lib.hid (by rw [hw2.out]; exact below_row6 HFA.out.2 _ _ (Nat.le_refl _))
      clear hw2
      go_wp2_with fail
      refine bodyPost_ret (results_node3 rfl _ _ W.heap.size 112 _ _ rfl H2.out Tryz.underlying112 rfl (size_nodeC _ _ _ _)) rfl ?_
      exact RUPost.no _ _ HNO.out H3.out (NV.node _ _ _ _ rfl)
    · have hjlt := hjp.lt
      have hjget : s[j]'hjlt = c2 := hjp.get
      have HJN := Lib.hid hjp.next
      have d5 : ¬ (j : Int) ≥ (s.size : Int) := by omega
      have d5n : ¬ s.size ≤ j := by omega
      clear hjp
      by_cases h41 : c2 = 41
      · subst h41
        generalize hB : w1.heap.size = B at *
        go_wp2_with (first | (refine wpList_load_at rfl 112 (.tmp 12) rfl B rfl 112 _ _ HX2.out Tryz.underlying112 rfl HNV.out.info ?_) | (refine wpList_store_at6 rfl 112 (.tmp 4) (.tmp 119) rfl W.heap.size _ rfl rfl 112 _ HFA.out.1 HNV.out.info (by rw [nodeC_size, HNV.out.size]) HNV.out.one ?_))
        intro w3 hw3
        have H7 : Hid (At w3 W.heap.size x 112) := Lib.hid (by rw [hw3.out]; exact HFA.out.1.row)
        have H8 : Hid (Below W.heap.size W w3) := Lib.hid (by rw [hw3.out]; exact below_row6 HFA.out.2 _ _ (Nat.le_refl _))
        go_wp2_with fail
        refine bodyPost_ret (results_node3 rfl _ _ W.heap.size 112 _ _ rfl H7.out Tryz.underlying112 rfl HNV.out.info) rfl ?_
        refine RUPost.yes x (j + 1) (by rw [HRS.out]; rfl) H8.out ?_ ⟨HJN.out.len, HJN.out.rest⟩
        rw [hw3.out]
        exact rnU_move HRX.out (by have := HWS.out; omega) (fun k hk1 hk2 => HS2.out x k hk1 (by rw [hB] at hk2; exact hk2)) (by rw [hB]; exact HS3.out x)
      · have d6 : ((c2.toNat : Int) != 41) = true := by rw [bne_iff_ne]; exact beq_eq_false_iff_ne.1 (u8_ne h41)
        have HNO : Hid (R = none) := Lib.hid (by
          rw [HRS.out]
          unfold closeRes
          split
          · rename_i h; injection h with h _; exact absurd h h41
          · rfl)
        clear h41 HS2 HS3 HX2
        generalize w1.heap.size = B at *
        go_wp2_with (refine wpList_store_at6 rfl 112 (.tmp 4) (.tmp 117) rfl W.heap.size _ rfl rfl 112 _ HFA.out.1 (by rw [HZ.out]; exact size_nodeC _ _ _ _) (by rw [HZ.out]) (by rw [HZ.out]; exact nodeC_one _ _ _ _ rfl) ?_)
        intro w2 hw2
        have H2 : Hid (At w2 W.heap.size (nodeC 0 noF false nilS) 112) := Lib.hid (by rw [hw2.out]; have := HFA.out.1.row (c' := Tryz.zeroCells112); rwa [HZ.out] at this ⊢)
        have H3 : Hid (Below W.heap.size W w2) := Lib.hid (by rw [hw2.out]; exact below_row6 HFA.out.2 _ _ (Nat.le_refl _))
        clear hw2
        go_wp2_with fail
        refine bodyPost_ret (results_node3 rfl _ _ W.heap.size 112 _ _ rfl H2.out Tryz.underlying112 rfl (size_nodeC _ _ _ _)) rfl ?_
        exact RUPost.no _ _ HNO.out H3.out (NV.node _ _ _ _ rfl)

theorem ratom_ok (n : Nat) (hA : RExpOK n) : RAtomOK (n + 1) := by
  intro W s i c r hs hrp hn
  simp only [List.length_cons] at hn
  by_cases e40 : c = 40
  · have h := ratom_grp W s i c r hs hrp n e40 hA (by omega)
    subst e40
    simp only [atom, if_true]
    have e : ∀ x : Option (As × List UInt8), (x.bind fun y => closeRes y.1 y.2) = x.bind fun (a, r') => match r' with | 41 :: r'' => some (U.grp a, r'') | _ => none := by
      intro x
      congr 1
    rw [e] at h
    exact h
  by_cases e91 : c = 91
  · subst e91
    simp only [atom]
    rw [if_neg (by decide), if_pos trivial]
    rcases r with _ | ⟨d, r'⟩
    · exact ratom_cls0 W s i 91 [] hs hrp rfl rfl
    · by_cases hd : d = 94
      · subst hd
        exact ratom_inv W s i 91 (94 :: r') hs hrp r' rfl rfl
      · have h := ratom_cls1 W s i 91 (d :: r') hs hrp d r' rfl rfl hd
        have e : bracket (d :: r') = brRes false (items ((d :: r').length + 1) noF (d :: r')) := by
          unfold bracket
          split
          · rename_i h2; injection h2 with h2 _; exact absurd h2 hd
          · rfl
        rw [e]
        exact h
  by_cases e46 : c = 46
  · subst e46
    simp only [atom]
    rw [if_neg (by decide), if_neg (by decide), if_pos trivial]
    exact ratom_dot W s i 46 r hs hrp rfl
  by_cases e92 : c = 92
  · subst e92
    simp only [atom]
    rw [if_neg (by decide), if_neg (by decide), if_neg (by decide), if_pos trivial]
    rcases r with _ | ⟨d, r'⟩
    · exact ratom_none W s i 92 [] hs hrp rfl (by decide) (fun _ => rfl) (by decide) (by decide)
    · exact ratom_esc W s i 92 (d :: r') hs hrp d r' rfl rfl
  simp only [atom]
  rw [if_neg e40, if_neg e91, if_neg e46, if_neg e92]
  rcases hsp : special c with _ | _
  · rw [if_neg (by decide)]
    exact ratom_plain W s i c r hs hrp hsp
  · rw [if_pos rfl]
    exact ratom_none W s i c r hs hrp hsp e46 (fun h => absurd h e92) e91 e40
end Go.Proofs.YthckgmbadmilfaaGreat
