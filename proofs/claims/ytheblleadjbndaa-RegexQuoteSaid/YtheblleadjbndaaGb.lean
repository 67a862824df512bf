/- The walk of Quote. -/
import Derived.Test.YtheblleadjbndaaPh
import Derived.Test.YtheblleadjbndaaMf
import Derived.Test.YtheblleadjbndaaLawC
import Derived.Laws.IdiomStrings
import Derived.Deep.LoopGhost
import Derived.Deep.DeepCutAuto
namespace Go.Proofs.Ytheblleadjbndaa
open Go.RowKit Rx
namespace Rx
theorem quoteR_len (l : List UInt8) : (quoteR l).length ≤ 2 * l.length := by
  unfold quoteR
  induction l with
  | nil => simp
  | cons c l ih =>
    rw [List.flatMap_cons, List.length_append, List.length_cons]
    split <;> simp only [List.length_cons, List.length_nil] <;> omega
theorem quoteR_snoc (l : List UInt8) (c : UInt8) : quoteR (l ++ [c]) = quoteR l ++ if special c then [92, c] else [c] := by simp [quoteR]
end Rx
def u8V (c : UInt8) : Value := .int .u8 c.toNat
/-- A row of bytes that grows. -/
structure QIn (W : World) (v : Value) (l : List UInt8) (w : World) : Prop where
  row : w.ownsRow 0 5 1 v l.length (l.map u8V)
  below : Below W.heap.size W w
  own : ∀ g, v.ownBlock = some g → W.heap.size ≤ g
theorem QIn.start (W : World) : QIn W (.slice none 0 0) [] W := ⟨World.ownsRow_nil _ _ _ _, Below.refl _ _, fun g h => by cases h⟩
/-- The string that a row of bytes is. -/
theorem QIn.str {W : World} {v : Value} {l : List UInt8} {w : World} (h : QIn W v l w) (n : Nat) : (convert 55 9 v).run Try.prog (w.drewN n) = .ok (.string ⟨l.toArray⟩) (w.drewN n) := by
  rcases h.row.2 with ⟨rfl, h0⟩ | ⟨g, cap, cur, rfl, _⟩
  · have : l = [] := List.length_eq_zero_iff.1 h0
    subst this
    rw [run_convert_bytes_string _ _ _ 5 _ _ _ Try.underlying55 Try.underlying5 Try.underlying9]
    rfl
  · refine run_convert_bytes_back _ _ _ 5 ⟨g, 0, none⟩ cap l Try.underlying55 Try.underlying5 Try.underlying9 fun j hj => ?_
    have := h.row.cells (g := g) rfl j (u8V l[j]) (by rw [List.getElem?_map, List.getElem?_eq_getElem hj]; rfl)
    exact this
theorem len_u8 {n : Nat} (h : n ≤ 100000) : n + 1 ≤ maxLen := by unfold maxLen; omega
theorem bytes_u8 {n : Nat} (h : n ≤ 100000) : (n + 1) * 1 ≤ 140737488355328 := by omega
theorem one_u8 (c : UInt8) : ∀ u ∈ [u8V c], u.oneCell' = true := by
  intro u hu
  simp at hu
  subst hu
  rfl
theorem info_u8 : (Try.prog.info? 5).map (fun i => (i.zero, i.size, i.bytes)) = some (some (.int .u8 0), 1, 1) := by kernel_rfl
theorem QIn.app {W : World} {v v' : Value} {l : List UInt8} {w w' : World} {o : Obj} {c : UInt8} (h : QIn W v l w) (h1 : w'.ownsRow 0 5 1 v' (l.length + 1) (l.map u8V ++ [u8V c])) (h2 : (w.alloc o).grownBy w' v.ownBlock) (h3 : v'.ownBlock = v.ownBlock ∨ v'.ownBlock = some (w.heap.size + 1)) : QIn W v' (l ++ [c]) w' := by
  refine ⟨?_, (h.below.alloc h.below.size o).grown h2 (Nat.le_trans h.below.size (by show w.heap.size ≤ (w.heap.push _).size; simp)) (fun k hk => h.own k hk), fun g hg => ?_⟩
  · rw [List.length_append, List.map_append]; exact h1
  · rcases h3 with h3 | h3
    · rw [h3] at hg; exact h.own g hg
    · rw [h3] at hg
      injection hg with hg
      have := h.below.size
      omega

set_option maxHeartbeats 2000000 in
theorem quote_any (s : ByteArray) (W : World) (hs : s.size ≤ 1000) : Calls Try.prog 24 #[.string s] W fun e w' => e = .returned (.string ⟨(quoteR (bs s)).toArray⟩) ∧ Below W.heap.size W w' := by
  obtain ⟨i0, hi, hz0, hz1, hz2⟩ := info_parts info_u8
  have HI := Lib.hid hi
  have HZ0 := Lib.hid hz0
  have HZ1 := Lib.hid hz1
  have HZ2 := Lib.hid hz2
  have HS := Lib.hid hs
  clear hi hz0 hz1 hz2 hs
  have hbl : (bs s).length = s.size := by simp [bs]
  have HBL := Lib.hid hbl
  clear hbl
  go_enter Try.func24, Try.ntmps24
  go_wp2_with fail
  go_loopg [3, 4] (s.size + 1) (fun g v i wr => ∃ j : Nat, g = s.size + 1 - j ∧ j ≤ s.size ∧ i = .int .i64 j ∧ QIn W v (quoteR ((bs s).take j)) wr)
  case atStart => exact ⟨0, rfl, Nat.zero_le _, rfl, QIn.start W⟩
  case round =>
    obtain ⟨j, hg, hj, rfl, hin⟩ := hrel
    obtain ⟨va, vn, vc, rfl⟩ := owns_slice hin.row
    have HIN := Lib.hid hin
    have hjl : (j : Int) ≤ 1000 := by have := HS.out; omega
    clear hin
    by_cases hlt : j < s.size
    · have hlti : (j : Int) < (s.size : Int) := by omega
      obtain ⟨c, hc⟩ : ∃ c, s[j] = c := ⟨_, rfl⟩
      have HQ : Hid (quoteR ((bs s).take (j + 1)) = quoteR ((bs s).take j) ++ if special c then [92, c] else [c]) := Lib.hid (by
        rw [List.take_succ_eq_append_getElem (by rw [HBL.out]; exact hlt), quoteR_snoc]
        have : (bs s)[j]'(by rw [HBL.out]; exact hlt) = c := hc
        rw [this])
      have hql : (quoteR ((bs s).take j)).length ≤ 2000 := by
        have h1 := quoteR_len ((bs s).take j)
        rw [List.length_take] at h1
        have := HS.out
        omega
      have hmo : s.size + 1 - (j + 1) < gk := by omega
      generalize quoteR ((bs s).take j) = l at *
      have HQL := Lib.hid hql
      have HMO := Lib.hid hmo
      clear hql hmo hg hj
      cases hsp : special c
      · have HI2 := Lib.hid (fun w => index_no c w hsp)
        have HQ2 : Hid (quoteR ((bs s).take (j + 1)) = l ++ [c]) := Lib.hid (by rw [HQ.out, hsp]; rfl)
        clear hsp HQ
        go_wp2_with fail
        refine (HI2.out _).mono ?_
        rintro e w' ⟨rfl, hww⟩
        obtain rfl : wr = w' := hww.symm
        clear hww
        go_wp2_with (at_builtin; (refine wpList_append_where _ rfl (.tmp 19) (.tmp 23) 55 rfl 5 i0 _ 1 1 Try.underlying55 HI.out HZ0.out HZ1.out HZ2.out rfl (by decide) (.slice va vn vc) l.length (l.map u8V) rfl (HIN.out.row.alloc _) ⟨wr.heap.size, 0, none⟩ 1 1 [u8V c] rfl (by decide) rfl (World.news_of_block (cs := #[u8V c]) (t := 5) (fr := (0, 0)) (heap_alloc_new _ _)) (one_u8 c) (len_u8 (by have := HQL.out; omega)) (bytes_u8 (by have := HQL.out; omega)) ?_))
        intro v' w4 hown hgrow hwhere
        have HA := Lib.hid (HIN.out.app hown hgrow hwhere)
        obtain ⟨xa, xn, xc, rfl⟩ := owns_slice hown
        clear hown hgrow hwhere
        go_wp2_with fail
        go_roundg (s.size + 1 - (j + 1))
        case measure => exact HMO.out
        case rel => exact ⟨j + 1, rfl, by omega, rfl, by rw [HQ2.out]; exact HA.out⟩
      · have HI2 := Lib.hid (fun w => index_yes c w hsp)
        have HQ2 : Hid (quoteR ((bs s).take (j + 1)) = (l ++ [92]) ++ [c]) := Lib.hid (by rw [HQ.out, hsp]; simp)
        clear hsp HQ
        go_wp2_with fail
        refine (HI2.out _).mono ?_
        rintro e w' ⟨⟨ni, rfl⟩, hww⟩
        obtain rfl : wr = w' := hww.symm
        have hni : (ni : Int) ≥ 0 := by omega
        clear hww
        go_wp2_with (at_builtin; (refine wpList_append_where _ rfl (.tmp 16) (.tmp 17) 55 rfl 5 i0 _ 1 1 Try.underlying55 HI.out HZ0.out HZ1.out HZ2.out rfl (by decide) (.slice va vn vc) l.length (l.map u8V) rfl (HIN.out.row.alloc _) ⟨wr.heap.size, 0, none⟩ 1 1 [u8V 92] rfl (by decide) rfl (World.news_of_block (cs := #[u8V 92]) (t := 5) (fr := (0, 0)) (heap_alloc_new _ _)) (one_u8 92) (len_u8 (by have := HQL.out; omega)) (bytes_u8 (by have := HQL.out; omega)) ?_))
        intro v1 w2 hown hgrow hwhere
        have HA1 := Lib.hid (HIN.out.app hown hgrow hwhere)
        obtain ⟨ya, yn, yc, rfl⟩ := owns_slice hown
        clear hown hgrow hwhere HIN
        go_wp2_with (at_builtin; (refine wpList_append_where _ rfl (.tmp 19) (.tmp 23) 55 rfl 5 i0 _ 1 1 Try.underlying55 HI.out HZ0.out HZ1.out HZ2.out rfl (by decide) (.slice ya yn yc) (l ++ [92]).length ((l ++ [92]).map u8V) rfl (HA1.out.row.alloc _) ⟨w2.heap.size, 0, none⟩ 1 1 [u8V c] rfl (by decide) rfl (World.news_of_block (cs := #[u8V c]) (t := 5) (fr := (0, 0)) (heap_alloc_new _ _)) (one_u8 c) (len_u8 (by have := HQL.out; simp; omega)) (bytes_u8 (by have := HQL.out; simp; omega)) ?_))
        intro v' w4 hown hgrow hwhere
        have HA := Lib.hid (HA1.out.app (c := c) (by simpa using hown) hgrow hwhere)
        obtain ⟨xa, xn, xc, rfl⟩ := owns_slice hown
        clear hown hgrow hwhere
        go_wp2_with fail
        go_roundg (s.size + 1 - (j + 1))
        case measure => exact HMO.out
        case rel => exact ⟨j + 1, rfl, by omega, rfl, by rw [HQ2.out]; exact HA.out⟩
    · obtain rfl : j = s.size := by omega
      have kc := HIN.out.str 0
      rw [List.take_of_length_le (by rw [HBL.out]; exact Nat.le_refl _)] at kc HIN
      have kc2 : (convert 55 9 (.slice va vn vc)).run Try.prog wr = .ok (.string ⟨(quoteR (bs s)).toArray⟩) wr := kc
      clear kc hlt hj hg
      go_wp2_with fail
      go_ret
      exact ⟨rfl, HIN.out.below⟩
end Go.Proofs.Ytheblleadjbndaa
