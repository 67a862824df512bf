/- The walk of Quote. The walk of Prefix. The walk of isEmpty and Empty. -/
import Derived.Test.YthckgmbadmilfaaGreatMAM
import Derived.Test.YthckgmbadmilfaaGreatMAQ
import Derived.Test.YthckgmbadmilfaaGreatMAF
import Derived.Laws.IdiomStrings
import Derived.Deep.LoopGhost
import Derived.Deep.DeepCutAuto
import Derived.Test.YthckgmbadmilfaaGreatMAV
namespace Go.Proofs.YthckgmbadmilfaaGreat
open Go.RowKit Rx
namespace Rx
theorem quoteR_len (l : List UInt8) : (quoteR l).length ≤ 2 * l.length := by
  unfold quoteR
  induction l with
  | nil => simp
  | cons c l ih =>
    rw [List.flatMap_cons, List.length_append, List.length_cons]
    split <;> simp only [List.length_cons, List.length_nil] <;> omega
theorem quoteR_snoc (l : List UInt8) (c : UInt8) : quoteR (l ++ [c]) = quoteR l ++ if special c then [92, c] else [c] := by simp [quoteR]
end Rx
def u8V (c : UInt8) : Value := .int .u8 c.toNat
/-- A row of bytes that grows. -/
structure QIn (W : World) (v : Value) (l : List UInt8) (w : World) : Prop where
  row : w.ownsRow 0 5 1 v l.length (l.map u8V)
  below : Below W.heap.size W w
  own : ∀ g, v.ownBlock = some g → W.heap.size ≤ g
theorem QIn.start (W : World) : QIn W (.slice none 0 0) [] W := ⟨World.ownsRow_nil _ _ _ _, Below.refl _ _, fun g h => by cases h⟩
/-- The string that a row of bytes is. -/
theorem QIn.str {W : World} {v : Value} {l : List UInt8} {w : World} (h : QIn W v l w) (n : Nat) : (convert 57 9 v).run Tryz.prog (w.drewN n) = .ok (.string ⟨l.toArray⟩) (w.drewN n) := by
  rcases h.row.2 with ⟨rfl, h0⟩ | ⟨g, cap, cur, rfl, _⟩
  · have : l = [] := List.length_eq_zero_iff.1 h0
    subst this
    rw [run_convert_bytes_string _ _ _ 5 _ _ _ Tryz.underlying57 Tryz.underlying5 Tryz.underlying9]
    rfl
  · refine run_convert_bytes_back _ _ _ 5 ⟨g, 0, none⟩ cap l Tryz.underlying57 Tryz.underlying5 Tryz.underlying9 fun j hj => ?_
    have := h.row.cells (g := g) rfl j (u8V l[j]) (by rw [List.getElem?_map, List.getElem?_eq_getElem hj]; rfl)
    exact this
theorem len_u8 {n : Nat} (h : n ≤ 100000) : n + 1 ≤ maxLen := by unfold maxLen; omega
theorem bytes_u8 {n : Nat} (h : n ≤ 100000) : (n + 1) * 1 ≤ 140737488355328 := by omega
theorem one_u8 (c : UInt8) : ∀ u ∈ [u8V c], u.oneCell' = true := by
  intro u hu
  simp at hu
  subst hu
  rfl
theorem info_u8 : (Tryz.prog.info? 5).map (fun i => (i.zero, i.size, i.bytes)) = some (some (.int .u8 0), 1, 1) := by kernel_rfl
theorem QIn.app {W : World} {v v' : Value} {l : List UInt8} {w w' : World} {o : Obj} {c : UInt8} (h : QIn W v l w) (h1 : w'.ownsRow 0 5 1 v' (l.length + 1) (l.map u8V ++ [u8V c])) (h2 : (w.alloc o).grownBy w' v.ownBlock) (h3 : v'.ownBlock = v.ownBlock ∨ v'.ownBlock = some (w.heap.size + 1)) : QIn W v' (l ++ [c]) w' := by
  refine ⟨?_, (h.below.alloc h.below.size o).grown h2 (Nat.le_trans h.below.size (by show w.heap.size ≤ (w.heap.push _).size; simp)) (fun k hk => h.own k hk), fun g hg => ?_⟩
  · rw [List.length_append, List.map_append]; exact h1
  · rcases h3 with h3 | h3
    · rw [h3] at hg; exact h.own g hg
    · rw [h3] at hg
      injection hg with hg
      have := h.below.size
      omega

end Go.Proofs.YthckgmbadmilfaaGreat

namespace Go.Proofs.YthckgmbadmilfaaGreat
open Go.RowKit Rx
namespace Rx
def szSs : Ss → Nat
  | .nil => 0
  | .cons _ s => szSs s + 1
theorem szSs_le : ∀ s : Ss, szSs s ≤ szS s := by
  intro s
  induction s using Ss.rec (motive_1 := fun _ => True) (motive_3 := fun _ => True) with
  | nil => exact Nat.le_refl _
  | cons u s _ ih => have := szU_byte_pos u; simp only [szSs, szS]; omega
  | _ => trivial
end Rx
/-- What a factor's node tells Prefix. -/
theorem part_of {S : Nat → Prop} {W : World} (u : U) (x : Value) (h : IsU S W u x) : ∃ b kind pl ch cl sv, x = ptr b ∧ At W b (nd kind pl ch cl sv) 121 ∧ ((∃ c, u = .byte c ∧ pl = true ∧ ch = c.toNat) ∨ (pl = false ∧ ∀ s, pre (.cons u s) = ([], false))) := by
  have hnode : ∀ kind v P, Node S W kind v P → ∃ b kind pl ch cl sv, v = ptr b ∧ At W b (nd kind pl ch cl sv) 121 ∧ pl = false := fun kind v P ⟨b, sv, xs, _, h1, h2, _⟩ => ⟨b, kind, false, 0, .pointer none, sv, h1, h2, rfl⟩
  rcases u with c | f | a | u | u | u
  · obtain ⟨b, _, rfl, h1⟩ := h
    exact ⟨b, _, _, _, _, _, rfl, h1, .inl ⟨c, rfl, rfl, rfl⟩⟩
  · obtain ⟨b, k, _, _, rfl, h1, _⟩ := h
    exact ⟨b, _, _, _, _, _, rfl, h1, .inr ⟨rfl, fun _ => rfl⟩⟩
  · have h2 : ∃ kind P, Node S W kind x P := by rcases a with s | ⟨s, a⟩ <;> exact ⟨_, _, h⟩
    obtain ⟨kind, P, h2⟩ := h2
    obtain ⟨b, k, pl, ch, cl, sv, h3, h4, h5⟩ := hnode _ _ _ h2
    exact ⟨b, k, pl, ch, cl, sv, h3, h4, .inr ⟨h5, fun _ => rfl⟩⟩
  all_goals
    obtain ⟨b, k, pl, ch, cl, sv, h3, h4, h5⟩ := hnode _ _ _ h
    exact ⟨b, k, pl, ch, cl, sv, h3, h4, .inr ⟨h5, fun _ => rfl⟩⟩
theorem IsSl.len {S : Nat → Prop} {W : World} : ∀ (s : Ss) (xs : List Value), IsSl S W s xs → xs.length = szSs s := by
  intro s
  induction s using Ss.rec (motive_1 := fun _ => True) (motive_3 := fun _ => True) with
  | nil => intro xs h; rw [show xs = [] from h]; rfl
  | cons u s _ ih => rintro xs ⟨x, ys, rfl, _, h⟩; simp only [List.length_cons, szSs]; rw [ih ys h]
  | _ => trivial

set_option maxRecDepth 100000 in
set_option maxHeartbeats 2000000 in
theorem prefix_any (p : ByteArray) (W : World) : Calls Tryz.prog 72 #[.string p] W fun e w' => e = .returned (.tuple #[.string ⟨(prefR (bs p)).1.toArray⟩, .bool (prefR (bs p)).2]) ∧ Below W.heap.size W w' := by
  obtain ⟨i0, hi, hz0, hz1, hz2⟩ := info_parts info_u8
  have HI := Lib.hid hi
  have HZ0 := Lib.hid hz0
  have HZ1 := Lib.hid hz1
  have HZ2 := Lib.hid hz2
  clear hi hz0 hz1 hz2
  have HP := Lib.hid (parse_any6 p W)
  go_enter Tryz.func72, Tryz.ntmps72
  go_wp2_with fail
  refine (HP.out).mono ?_
  rintro e w1 ⟨hb, hp⟩
  have HB := Lib.hid hb
  clear hb HP
  rcases ha : parse (bs p) with _ | a
  · rw [ha] at hp
    simp only at hp
    obtain rfl := hp
    have HE2 : Hid (prefR (bs p) = ([], false)) := Lib.hid (by unfold prefR; rw [ha])
    clear ha
    go_wp2_with fail
    go_ret2
    exact ⟨by rw [HE2.out]; rfl, HB.out⟩
  · rw [ha] at hp
    simp only at hp
    obtain ⟨v, rfl, hv⟩ := hp
    have hsz := parse_sz ha
    rcases a with sq | ⟨sq, a2⟩
    · have HE2 : Hid (prefR (bs p) = pre sq) := Lib.hid (by unfold prefR; rw [ha])
      obtain ⟨tb, sv, xs, _, rfl, hat, hpa, hsl⟩ := hv
      have c0 : w1.cell? ⟨tb, 0, none⟩ = some (.int .i64 1) := hat.cell 0
      have c4 : w1.cell? ⟨tb, 4, none⟩ = some sv := hat.cell 4
      obtain ⟨sa, sn, sc, rfl⟩ := owns_slice hpa.1
      obtain rfl : sn = xs.length := by
        rcases hpa.1.2 with ⟨e, h0⟩ | ⟨g, cap, cur, e, _⟩
        · injection e with _ e _; omega
        · injection e with _ e _
      have hxl := IsSl.len sq xs hsl
      have hxs : xs.length ≤ 200 := by have := szSs_le sq; simp only [szA] at hsz; omega
      have HPA := Lib.hid hpa.1
      have HSL := Lib.hid hsl
      have HXS := Lib.hid hxs
      clear ha hat hpa hsl hsz hxl hxs
      unfold ptr
      go_wp2_with fail
      go_loopg [6, 28] xs.length (fun g v i wr => ∃ (j : Nat) (dn ys : List Value) (s' : Ss) (l : List UInt8), g = xs.length - j ∧ xs = dn ++ ys ∧ dn.length = j ∧ i = .int .i64 j ∧ IsSl (Fresh W w1) w1 s' ys ∧ pre sq = (l ++ (pre s').1, (pre s').2) ∧ l.length = j ∧ QIn w1 v l wr)
      case atStart => exact ⟨0, [], xs, sq, [], rfl, rfl, rfl, rfl, HSL.out, rfl, rfl, QIn.start w1⟩
      case round =>
        obtain ⟨j, dn, ys, s', l, hg, hxs, hdn, rfl, hsl, hpre, hll, hin⟩ := hrel
        obtain ⟨va, vn, vc, rfl⟩ := owns_slice hin.row
        have HIN := Lib.hid hin
        have HPR := Lib.hid hpre
        have hjx : j + ys.length = xs.length := by rw [hxs, List.length_append]; omega
        have HLL : Hid (l.length = j) := Lib.hid hll
        have hjl : (j : Int) ≤ 200 := by have := HXS.out; omega
        have HBW : Hid (Below W.heap.size W wr) := Lib.hid (HB.out.trans (hin.below.mono HB.out.size))
        have kc := hin.str 0
        have kc2 : (convert 57 9 (.slice va vn vc)).run Tryz.prog wr = .ok (.string ⟨l.toArray⟩) wr := kc
        clear hin hpre hll kc
        rcases ys with _ | ⟨x, ys⟩
        · have hs' : s' = .nil := by
            rcases s' with _ | ⟨u, s'⟩
            · rfl
            · obtain ⟨x, zs, e, _⟩ := hsl; cases e
          subst hs'
          obtain rfl : j = xs.length := by simpa using hjx
          have HE3 : Hid (prefR (bs p) = (l, true)) := Lib.hid (by rw [HE2.out, HPR.out]; simp [pre])
          clear hsl hjx hg hxs hdn
          go_wp2_with fail
          go_ret2
          exact ⟨by rw [HE3.out]; rfl, HBW.out⟩
        · rcases s' with _ | ⟨u, s'⟩
          · cases hsl
          obtain ⟨x', zs, e, hu, hsl2⟩ := hsl
          injection e with e1 e2
          subst e1 e2
          obtain ⟨b, kind, pl, ch, cl, psv, rfl, hat, hpl⟩ := part_of u x hu
          have hjlt : j < xs.length := by simp at hjx; omega
          have hjlti : (j : Int) < (xs.length : Int) := by omega
          have hxj : xs[j]? = some (ptr b) := by rw [hxs, List.getElem?_append_right (by omega), hdn, Nat.sub_self]; rfl
          have hsa : ∃ g, sa = some ⟨g, 0, none⟩ ∧ xs.length ≤ sc := by
            rcases HPA.out.2 with ⟨e, h0⟩ | ⟨g, cap, cur, e, _, _, h3, _⟩
            · omega
            · injection e with e1 _ e3; exact ⟨g, e1, by omega⟩
          obtain ⟨g, rfl, hsc⟩ := hsa
          have hgl : g < w1.heap.size := by obtain ⟨C, hC⟩ := owns_type HPA.out (g := g) rfl; exact hC.lt
          have d1 : wr.cell? ⟨g, j, none⟩ = some (ptr b) := by rw [HIN.out.below.cell hgl]; exact owns_cell HPA.out rfl hxj
          have hat2 := hat.below HIN.out.below
          have d2 : wr.cell? ⟨b, 1, none⟩ = some (.bool pl) := hat2.cell 1
          have d3 : wr.cell? ⟨b, 2, none⟩ = some (.int .u8 ch) := hat2.cell 2
          have hmo : xs.length - (j + 1) < gk := by omega
          have HMO := Lib.hid hmo
          have HDN : Hid (xs = (dn ++ [ptr b]) ++ ys ∧ (dn ++ [ptr b]).length = j + 1) := Lib.hid ⟨by rw [hxs]; simp, by simp [hdn]⟩
          have HSL2 := Lib.hid hsl2
          clear hat hat2 hu hsl2 hxj hgl hmo hg hxs hdn hjx
          unfold ptr at d1
          rcases hpl with ⟨c, rfl, rfl, rfl⟩ | ⟨rfl, hpf⟩
          · have HPR2 : Hid (pre sq = ((l ++ [c]) ++ (pre s').1, (pre s').2)) := Lib.hid (by rw [HPR.out]; simp [pre])
            have hlb : l.length ≤ 100000 := by have := HLL.out; have := HXS.out; omega
            clear kc2
            go_wp2_with (at_builtin; (refine wpList_append_where _ rfl (.tmp 39) (.tmp 44) 57 rfl 5 i0 _ 1 1 Tryz.underlying57 HI.out HZ0.out HZ1.out HZ2.out rfl (by decide) (.slice va vn vc) l.length (l.map u8V) rfl (HIN.out.row.alloc _) ⟨wr.heap.size, 0, none⟩ 1 1 [u8V c] rfl (by decide) rfl (World.news_of_block (cs := #[u8V c]) (t := 5) (fr := (0, 0)) (heap_alloc_new _ _)) (one_u8 c) (len_u8 hlb) (bytes_u8 hlb) ?_))
            intro v' w4 hown hgrow hwhere
            have HA := Lib.hid (HIN.out.app hown hgrow hwhere)
            obtain ⟨ya, yn, yc, rfl⟩ := owns_slice hown
            clear hown hgrow hwhere
            go_wp2_with fail
            go_roundg (xs.length - (j + 1))
            case measure => exact HMO.out
            case rel => exact ⟨j + 1, dn ++ [ptr b], ys, s', l ++ [c], rfl, HDN.out.1, HDN.out.2, rfl, HSL2.out, HPR2.out, by rw [List.length_append, HLL.out]; rfl, HA.out⟩
          · have HE3 : Hid (prefR (bs p) = (l, false)) := Lib.hid (by rw [HE2.out, HPR.out, hpf]; simp)
            clear hpf
            go_wp2_with fail
            go_ret2
            exact ⟨by rw [HE3.out]; rfl, HBW.out⟩
    · have HE2 : Hid (prefR (bs p) = ([], false)) := Lib.hid (by unfold prefR; rw [ha])
      obtain ⟨tb, sv, xs, _, rfl, hat, _⟩ := hv
      have c0 : w1.cell? ⟨tb, 0, none⟩ = some (.int .i64 2) := hat.cell 0
      clear ha hat hsz
      unfold ptr
      go_wp2_with fail
      go_ret2
      exact ⟨by rw [HE2.out]; rfl, HB.out⟩
end Go.Proofs.YthckgmbadmilfaaGreat

namespace Go.Proofs.YthckgmbadmilfaaGreat
open Go.RowKit Rx

/-- An index that is there if b is true. -/
def SomeIx (b : Bool) (w : World) (e : Ending) (w' : World) : Prop := ∃ r : Int, e = .returned (.int .i64 r) ∧ decide (0 ≤ r) = b ∧ w = w'
theorem any_range_succ (p : Nat → Bool) (j : Nat) : (List.range (j + 1)).any p = ((List.range j).any p || p j) := by rw [List.range_succ, List.any_append]; simp
theorem any_range_yes (p : Nat → Bool) (j n : Nat) (h : j < n) (hp : p j = true) : (List.range n).any p = true := by
  rw [List.any_eq_true]; exact ⟨j, List.mem_range.2 h, hp⟩

set_option maxRecDepth 100000 in
set_option maxHeartbeats 1000000 in
theorem index_bools (f : UInt8 → Bool) (k : Nat) (W : World) (n : Nat) (hn0 : n = 256) (hk : At W k (btab f 256) 202) : Calls Tryz.prog 157 #[.slice (some ⟨k, 0, none⟩) n n, .bool true] W (SomeIx (all256.any f) W) := by
  have hall : all256.any f = (List.range 256).any fun i => f (UInt8.ofNat i) := by unfold all256; rw [List.any_map]; rfl
  rw [hall]
  have HK := Lib.hid hk
  have HN0 := Lib.hid hn0
  have hnl : (n : Int) ≤ 256 := by omega
  clear hk hall hn0
  obtain ⟨p, hp⟩ : ∃ p : Nat → Bool, (fun i => f (UInt8.ofNat i)) = p := ⟨_, rfl⟩
  have hpc : ∀ j, j < 256 → W.cell? ⟨k, j, none⟩ = some (.bool (p j)) := fun j hj => by
    rw [HK.out.cell, btab_get f 256 j hj, if_pos hj, ← hp]
  rw [hp]
  have HC := Lib.hid hpc
  obtain ⟨R, hR⟩ : ∃ R, (List.range 256).any p = R := ⟨_, rfl⟩
  have HY0 : Hid (∀ j, j < 256 → p j = true → R = true) := Lib.hid (fun j h h2 => by rw [← hR]; exact any_range_yes p j 256 h h2)
  have HE0 : Hid (∀ j, j = 256 → (List.range j).any p = R) := Lib.hid (fun j h => by rw [h]; exact hR)
  rw [hR]
  clear hp hpc HK hR
  go_enter Tryz.func157, Tryz.ntmps157
  go_wp2_with fail
  go_loopg [8] n (fun g i wr => ∃ j : Nat, W = wr ∧ g = n - j ∧ j ≤ n ∧ i = .int .i64 j ∧ (List.range j).any p = false)
  case atStart => exact ⟨0, rfl, rfl, Nat.zero_le _, rfl, rfl⟩
  case round =>
    obtain ⟨j, rfl, hg, hj, rfl, hn⟩ := hrel
    have hjl : (j : Int) ≤ 256 := by omega
    by_cases hlt : j < n
    · have hlti : (j : Int) < (n : Int) := by omega
      have hc := HC.out j (by have := HN0.out; omega)
      have hmo : n - (j + 1) < gk := by omega
      have HMO := Lib.hid hmo
      have hsucc := any_range_succ p j
      rw [hn, Bool.false_or] at hsucc
      have HS := Lib.hid hsucc
      have HY := Lib.hid (HY0.out j (by have := HN0.out; omega))
      clear hmo hg hn hsucc
      generalize p j = b at *
      cases b
      · go_wp2_with fail
        go_roundg (n - (j + 1))
        case measure => exact HMO.out
        case rel => exact ⟨j + 1, rfl, rfl, by omega, rfl, HS.out⟩
      · go_wp2_with fail
        go_ret
        exact ⟨j, rfl, by rw [HY.out trivial]; exact decide_eq_true (by omega), rfl⟩
    · have HJ : Hid (j = 256) := Lib.hid (by have := HN0.out; omega)
      have HN := Lib.hid hn
      have hlti : ¬ (j : Int) < (n : Int) := by omega
      clear hn hg
      go_wp2_with fail
      go_ret
      exact ⟨-1, rfl, by rw [← HE0.out j HJ.out, HN.out]; rfl, rfl⟩

set_option maxHeartbeats 1000000 in
theorem contains_bools (f : UInt8 → Bool) (k : Nat) (W : World) (hk : At W k (btab f 256) 202) : Calls Tryz.prog 137 #[.slice (some ⟨k, 0, none⟩) 256 256, .bool true] W fun e w' => e = .returned (.bool (all256.any f)) ∧ W = w' := by
  have HI := Lib.hid (index_bools f k W 256 rfl hk)
  clear hk
  generalize all256.any f = b at *
  go_enter Tryz.func137, Tryz.ntmps137
  go_wp2_with fail
  refine (HI.out).mono ?_
  rintro e w' ⟨r, rfl, hr, rfl⟩
  have HR := Lib.hid hr
  clear hr
  go_wp2_with fail
  go_ret
  exact ⟨by first | rfl | exact ret_bool HR.out | (rw [← HR.out]; rfl), rfl⟩

/-! ### Trees -/
/-- isEmpty answers g at a tree. -/
def EmC (W : World) (x : Value) (g : Bool) : Prop := Calls Tryz.prog 109 #[x] W fun e w' => e = .returned (.bool g) ∧ W = w'
/-- A closure's answer. -/
def EmN (W : World) (x : Value) (g : Bool) : Prop := Calls Tryz.prog 139 #[x] W fun e w' => e = .returned (.bool g) ∧ W = w'
set_option maxHeartbeats 1000000 in
theorem EmC.not {W : World} {x : Value} {g : Bool} (h : EmC W x g) : EmN W x (!g) := by
  have H : Hid (Calls Tryz.prog 109 #[x] W fun e w' => e = .returned (.bool g) ∧ W = w') := Lib.hid h
  clear h
  show Calls Tryz.prog 139 #[x] W fun e w' => e = .returned (.bool (!g)) ∧ W = w'
  go_enter Tryz.func139, Tryz.ntmps139
  go_wp2_with fail
  refine (H.out).mono ?_
  rintro e w' ⟨rfl, rfl⟩
  go_wp2_with fail
  go_ret
  exact ⟨rfl, rfl⟩
/-- A row of trees. -/
structure TRow (W : World) (sv : Value) (xs : List Value) : Prop where mk :: (out : W.ownsRow 0 115 1 sv xs.length xs)

set_option maxHeartbeats 2000000 in
theorem indexFunc_em (W : World) (sv : Value) (xs : List Value) (gs : List Bool) (hrow : TRow W sv xs) (hlen : xs.length ≤ 100000) (hg : xs.length = gs.length) (hc : ∀ (j : Nat) x g, xs[j]? = some x → gs[j]? = some g → EmC W x g) (hp : ∀ x ∈ xs, ∃ b, x = ptr b) :
    Calls Tryz.prog 158 #[sv, .func (.func 109) #[] #[]] W (SomeIx (gs.any id) W) := by
  obtain ⟨sa, sn, sc, rfl⟩ := owns_slice hrow.out
  obtain rfl : sn = xs.length := by
    rcases hrow.out.2 with ⟨e, h0⟩ | ⟨g, cap, cur, e, _⟩
    · injection e with _ e _; omega
    · injection e with _ e _
  have HR := Lib.hid hrow
  have HL := Lib.hid hlen
  have HG := Lib.hid hg
  have HC := Lib.hid hc
  have HP := Lib.hid hp
  clear hrow hlen hg hc hp
  go_enter Tryz.func158, Tryz.ntmps158
  go_wp2_with fail
  go_loopg [8] xs.length (fun g i wr => ∃ j : Nat, W = wr ∧ g = xs.length - j ∧ j ≤ xs.length ∧ i = .int .i64 j ∧ (gs.take j).any id = false)
  case atStart => exact ⟨0, rfl, rfl, Nat.zero_le _, rfl, rfl⟩
  case round =>
    obtain ⟨j, rfl, hg, hj, rfl, hn⟩ := hrel
    have hjl : (j : Int) ≤ 100000 := by have := HL.out; omega
    have HN := Lib.hid hn
    clear hn
    by_cases hlt : j < xs.length
    · have hlti : (j : Int) < (xs.length : Int) := by omega
      have hglt : j < gs.length := by rw [← HG.out]; exact hlt
      have hxj := List.getElem?_eq_getElem hlt
      have hgj := List.getElem?_eq_getElem hglt
      obtain ⟨b, hb⟩ := HP.out _ (List.getElem_mem hlt)
      rw [hb] at hxj
      obtain ⟨r, hr⟩ : ∃ r, gs[j] = r := ⟨_, rfl⟩
      rw [hr] at hgj
      have hcall : Calls Tryz.prog 109 #[ptr b] W fun e w' => e = .returned (.bool r) ∧ W = w' := HC.out j _ _ hxj hgj
      have hsa : ∃ g, sa = some ⟨g, 0, none⟩ ∧ xs.length ≤ sc := by
        rcases HR.out.out.2 with ⟨e, h0⟩ | ⟨g, cap, cur, e, _, _, h3, _⟩
        · omega
        · injection e with e1 _ e3; exact ⟨g, e1, by omega⟩
      obtain ⟨g, rfl, hsc⟩ := hsa
      have d1 : W.cell? ⟨g, j, none⟩ = some (ptr b) := owns_cell HR.out.out rfl hxj
      have hmo : xs.length - (j + 1) < gk := by omega
      have HMO := Lib.hid hmo
      have HS : Hid ((gs.take (j + 1)).any id = r) := Lib.hid (by
        rw [List.take_succ_eq_append_getElem hglt, List.any_append, HN.out, hr]; simp)
      have HY : Hid (r = true → gs.any id = true) := Lib.hid (fun h => by
        rw [List.any_eq_true]; exact ⟨_, List.getElem_mem hglt, by rw [hr]; exact h⟩)
      have HCALL := Lib.hid hcall
      clear hmo hg hcall hxj hgj hb hr hsc
      unfold ptr at *
      go_wp2_with fail
      refine (HCALL.out).mono ?_
      rintro e w' ⟨rfl, rfl⟩
      cases r
      · go_wp2_with fail
        go_roundg (xs.length - (j + 1))
        case measure => exact HMO.out
        case rel => exact ⟨j + 1, rfl, rfl, by omega, rfl, HS.out⟩
      · go_wp2_with fail
        go_ret
        exact ⟨j, rfl, by rw [HY.out trivial]; exact decide_eq_true (by omega), rfl⟩
    · have HJ : Hid (gs.any id = false) := Lib.hid (by
        have h := HN.out
        rwa [List.take_of_length_le (by have := HG.out; omega)] at h)
      have hlti : ¬ (j : Int) < (xs.length : Int) := by omega
      clear hg HN
      go_wp2_with fail
      go_ret
      exact ⟨-1, rfl, by rw [HJ.out]; rfl, rfl⟩

set_option maxHeartbeats 1000000 in
theorem containsFunc_em (W : World) (sv : Value) (xs : List Value) (gs : List Bool) (hrow : TRow W sv xs) (hlen : xs.length ≤ 100000) (hg : xs.length = gs.length) (hc : ∀ (j : Nat) x g, xs[j]? = some x → gs[j]? = some g → EmC W x g) (hp : ∀ x ∈ xs, ∃ b, x = ptr b) :
    Calls Tryz.prog 138 #[sv, .func (.func 109) #[] #[]] W fun e w' => e = .returned (.bool (gs.any id)) ∧ W = w' := by
  have HI := Lib.hid (indexFunc_em W sv xs gs hrow hlen hg hc hp)
  obtain ⟨sa, sn, sc, rfl⟩ := owns_slice hrow.out
  clear hrow hlen hg hc hp
  generalize gs.any id = b at *
  go_enter Tryz.func138, Tryz.ntmps138
  go_wp2_with fail
  refine (HI.out).mono ?_
  rintro e w' ⟨r, rfl, hr, rfl⟩
  have HR := Lib.hid hr
  clear hr
  go_wp2_with fail
  go_ret
  exact ⟨by first | rfl | exact ret_bool HR.out | (rw [← HR.out]; rfl), rfl⟩

set_option maxHeartbeats 2000000 in
theorem indexFunc_ne (W : World) (sv : Value) (xs : List Value) (gs : List Bool) (hrow : TRow W sv xs) (hlen : xs.length ≤ 100000) (hg : xs.length = gs.length) (hc : ∀ (j : Nat) x g, xs[j]? = some x → gs[j]? = some g → EmN W x g) (hp : ∀ x ∈ xs, ∃ b, x = ptr b) :
    Calls Tryz.prog 158 #[sv, .func (.func 139) #[] #[]] W (SomeIx (gs.any id) W) := by
  obtain ⟨sa, sn, sc, rfl⟩ := owns_slice hrow.out
  obtain rfl : sn = xs.length := by
    rcases hrow.out.2 with ⟨e, h0⟩ | ⟨g, cap, cur, e, _⟩
    · injection e with _ e _; omega
    · injection e with _ e _
  have HR := Lib.hid hrow
  have HL := Lib.hid hlen
  have HG := Lib.hid hg
  have HC := Lib.hid hc
  have HP := Lib.hid hp
  clear hrow hlen hg hc hp
  go_enter Tryz.func158, Tryz.ntmps158
  go_wp2_with fail
  go_loopg [8] xs.length (fun g i wr => ∃ j : Nat, W = wr ∧ g = xs.length - j ∧ j ≤ xs.length ∧ i = .int .i64 j ∧ (gs.take j).any id = false)
  case atStart => exact ⟨0, rfl, rfl, Nat.zero_le _, rfl, rfl⟩
  case round =>
    obtain ⟨j, rfl, hg, hj, rfl, hn⟩ := hrel
    have hjl : (j : Int) ≤ 100000 := by have := HL.out; omega
    have HN := Lib.hid hn
    clear hn
    by_cases hlt : j < xs.length
    · have hlti : (j : Int) < (xs.length : Int) := by omega
      have hglt : j < gs.length := by rw [← HG.out]; exact hlt
      have hxj := List.getElem?_eq_getElem hlt
      have hgj := List.getElem?_eq_getElem hglt
      obtain ⟨b, hb⟩ := HP.out _ (List.getElem_mem hlt)
      rw [hb] at hxj
      obtain ⟨r, hr⟩ : ∃ r, gs[j] = r := ⟨_, rfl⟩
      rw [hr] at hgj
      have hcall : Calls Tryz.prog 139 #[ptr b] W fun e w' => e = .returned (.bool r) ∧ W = w' := HC.out j _ _ hxj hgj
      have hsa : ∃ g, sa = some ⟨g, 0, none⟩ ∧ xs.length ≤ sc := by
        rcases HR.out.out.2 with ⟨e, h0⟩ | ⟨g, cap, cur, e, _, _, h3, _⟩
        · omega
        · injection e with e1 _ e3; exact ⟨g, e1, by omega⟩
      obtain ⟨g, rfl, hsc⟩ := hsa
      have d1 : W.cell? ⟨g, j, none⟩ = some (ptr b) := owns_cell HR.out.out rfl hxj
      have hmo : xs.length - (j + 1) < gk := by omega
      have HMO := Lib.hid hmo
      have HS : Hid ((gs.take (j + 1)).any id = r) := Lib.hid (by
        rw [List.take_succ_eq_append_getElem hglt, List.any_append, HN.out, hr]; simp)
      have HY : Hid (r = true → gs.any id = true) := Lib.hid (fun h => by
        rw [List.any_eq_true]; exact ⟨_, List.getElem_mem hglt, by rw [hr]; exact h⟩)
      have HCALL := Lib.hid hcall
      clear hmo hg hcall hxj hgj hb hr hsc
      unfold ptr at *
      go_wp2_with fail
      refine (HCALL.out).mono ?_
      rintro e w' ⟨rfl, rfl⟩
      cases r
      · go_wp2_with fail
        go_roundg (xs.length - (j + 1))
        case measure => exact HMO.out
        case rel => exact ⟨j + 1, rfl, rfl, by omega, rfl, HS.out⟩
      · go_wp2_with fail
        go_ret
        exact ⟨j, rfl, by rw [HY.out trivial]; exact decide_eq_true (by omega), rfl⟩
    · have HJ : Hid (gs.any id = false) := Lib.hid (by
        have h := HN.out
        rwa [List.take_of_length_le (by have := HG.out; omega)] at h)
      have hlti : ¬ (j : Int) < (xs.length : Int) := by omega
      clear hg HN
      go_wp2_with fail
      go_ret
      exact ⟨-1, rfl, by rw [HJ.out]; rfl, rfl⟩

set_option maxHeartbeats 1000000 in
theorem containsFunc_ne (W : World) (sv : Value) (xs : List Value) (gs : List Bool) (hrow : TRow W sv xs) (hlen : xs.length ≤ 100000) (hg : xs.length = gs.length) (hc : ∀ (j : Nat) x g, xs[j]? = some x → gs[j]? = some g → EmN W x g) (hp : ∀ x ∈ xs, ∃ b, x = ptr b) :
    Calls Tryz.prog 138 #[sv, .func (.func 139) #[] #[]] W fun e w' => e = .returned (.bool (gs.any id)) ∧ W = w' := by
  have HI := Lib.hid (indexFunc_ne W sv xs gs hrow hlen hg hc hp)
  obtain ⟨sa, sn, sc, rfl⟩ := owns_slice hrow.out
  clear hrow hlen hg hc hp
  generalize gs.any id = b at *
  go_enter Tryz.func138, Tryz.ntmps138
  go_wp2_with fail
  refine (HI.out).mono ?_
  rintro e w' ⟨r, rfl, hr, rfl⟩
  have HR := Lib.hid hr
  clear hr
  go_wp2_with fail
  go_ret
  exact ⟨by first | rfl | exact ret_bool HR.out | (rw [← HR.out]; rfl), rfl⟩
end Go.Proofs.YthckgmbadmilfaaGreat
