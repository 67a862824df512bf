/- The walk of Prefix. -/
import Derived.Test.YtheblleadjbndaaGb
import Derived.Test.YtheblleadjbndaaGa
namespace Go.Proofs.Ytheblleadjbndaa
open Go.RowKit Rx
namespace Rx
def szSs : Ss → Nat
  | .nil => 0
  | .cons _ s => szSs s + 1
theorem szSs_le : ∀ s : Ss, szSs s ≤ szS s := by
  intro s
  induction s using Ss.rec (motive_1 := fun _ => True) (motive_3 := fun _ => True) with
  | nil => exact Nat.le_refl _
  | cons u s _ ih => have := szU_byte_pos u; simp only [szSs, szS]; omega
  | _ => trivial
end Rx
/-- What a factor's node tells Prefix. -/
theorem part_of {S : Nat → Prop} {W : World} (u : U) (x : Value) (h : IsU S W u x) : ∃ b kind pl ch cl sv, x = ptr b ∧ At W b (nd kind pl ch cl sv) 54 ∧ ((∃ c, u = .byte c ∧ pl = true ∧ ch = c.toNat) ∨ (pl = false ∧ ∀ s, pre (.cons u s) = ([], false))) := by
  have hnode : ∀ kind v P, Node S W kind v P → ∃ b kind pl ch cl sv, v = ptr b ∧ At W b (nd kind pl ch cl sv) 54 ∧ pl = false := fun kind v P ⟨b, sv, xs, _, h1, h2, _⟩ => ⟨b, kind, false, 0, .pointer none, sv, h1, h2, rfl⟩
  rcases u with c | f | a | u | u | u
  · obtain ⟨b, _, rfl, h1⟩ := h
    exact ⟨b, _, _, _, _, _, rfl, h1, .inl ⟨c, rfl, rfl, rfl⟩⟩
  · obtain ⟨b, k, _, _, rfl, h1, _⟩ := h
    exact ⟨b, _, _, _, _, _, rfl, h1, .inr ⟨rfl, fun _ => rfl⟩⟩
  · have h2 : ∃ kind P, Node S W kind x P := by rcases a with s | ⟨s, a⟩ <;> exact ⟨_, _, h⟩
    obtain ⟨kind, P, h2⟩ := h2
    obtain ⟨b, k, pl, ch, cl, sv, h3, h4, h5⟩ := hnode _ _ _ h2
    exact ⟨b, k, pl, ch, cl, sv, h3, h4, .inr ⟨h5, fun _ => rfl⟩⟩
  all_goals
    obtain ⟨b, k, pl, ch, cl, sv, h3, h4, h5⟩ := hnode _ _ _ h
    exact ⟨b, k, pl, ch, cl, sv, h3, h4, .inr ⟨h5, fun _ => rfl⟩⟩
theorem IsSl.len {S : Nat → Prop} {W : World} : ∀ (s : Ss) (xs : List Value), IsSl S W s xs → xs.length = szSs s := by
  intro s
  induction s using Ss.rec (motive_1 := fun _ => True) (motive_3 := fun _ => True) with
  | nil => intro xs h; rw [show xs = [] from h]; rfl
  | cons u s _ ih => rintro xs ⟨x, ys, rfl, _, h⟩; simp only [List.length_cons, szSs]; rw [ih ys h]
  | _ => trivial

set_option maxRecDepth 100000 in
set_option maxHeartbeats 2000000 in
theorem prefix_any (p : ByteArray) (W : World) : Calls Try.prog 20 #[.string p] W fun e w' => e = .returned (.tuple #[.string ⟨(prefR (bs p)).1.toArray⟩, .bool (prefR (bs p)).2]) ∧ Below W.heap.size W w' := by
  obtain ⟨i0, hi, hz0, hz1, hz2⟩ := info_parts info_u8
  have HI := Lib.hid hi
  have HZ0 := Lib.hid hz0
  have HZ1 := Lib.hid hz1
  have HZ2 := Lib.hid hz2
  clear hi hz0 hz1 hz2
  have HP := Lib.hid (parse_any p W)
  go_enter Try.func20, Try.ntmps20
  go_wp2_with fail
  refine (HP.out).mono ?_
  rintro e w1 ⟨hb, hp⟩
  have HB := Lib.hid hb
  clear hb HP
  rcases ha : parse (bs p) with _ | a
  · rw [ha] at hp
    simp only at hp
    obtain rfl := hp
    have HE2 : Hid (prefR (bs p) = ([], false)) := Lib.hid (by unfold prefR; rw [ha])
    clear ha
    go_wp2_with fail
    go_ret2
    exact ⟨by rw [HE2.out]; rfl, HB.out⟩
  · rw [ha] at hp
    simp only at hp
    obtain ⟨v, rfl, hv⟩ := hp
    have hsz := parse_sz ha
    rcases a with sq | ⟨sq, a2⟩
    · have HE2 : Hid (prefR (bs p) = pre sq) := Lib.hid (by unfold prefR; rw [ha])
      obtain ⟨tb, sv, xs, _, rfl, hat, hpa, hsl⟩ := hv
      have c0 : w1.cell? ⟨tb, 0, none⟩ = some (.int .i64 1) := hat.cell 0
      have c4 : w1.cell? ⟨tb, 4, none⟩ = some sv := hat.cell 4
      obtain ⟨sa, sn, sc, rfl⟩ := owns_slice hpa.1
      obtain rfl : sn = xs.length := by
        rcases hpa.1.2 with ⟨e, h0⟩ | ⟨g, cap, cur, e, _⟩
        · injection e with _ e _; omega
        · injection e with _ e _
      have hxl := IsSl.len sq xs hsl
      have hxs : xs.length ≤ 200 := by have := szSs_le sq; simp only [szA] at hsz; omega
      have HPA := Lib.hid hpa.1
      have HSL := Lib.hid hsl
      have HXS := Lib.hid hxs
      clear ha hat hpa hsl hsz hxl hxs
      unfold ptr
      go_wp2_with fail
      go_loopg [6, 28] xs.length (fun g v i wr => ∃ (j : Nat) (dn ys : List Value) (s' : Ss) (l : List UInt8), g = xs.length - j ∧ xs = dn ++ ys ∧ dn.length = j ∧ i = .int .i64 j ∧ IsSl (Fresh W w1) w1 s' ys ∧ pre sq = (l ++ (pre s').1, (pre s').2) ∧ l.length = j ∧ QIn w1 v l wr)
      case atStart => exact ⟨0, [], xs, sq, [], rfl, rfl, rfl, rfl, HSL.out, rfl, rfl, QIn.start w1⟩
      case round =>
        obtain ⟨j, dn, ys, s', l, hg, hxs, hdn, rfl, hsl, hpre, hll, hin⟩ := hrel
        obtain ⟨va, vn, vc, rfl⟩ := owns_slice hin.row
        have HIN := Lib.hid hin
        have HPR := Lib.hid hpre
        have hjx : j + ys.length = xs.length := by rw [hxs, List.length_append]; omega
        have HLL : Hid (l.length = j) := Lib.hid hll
        have hjl : (j : Int) ≤ 200 := by have := HXS.out; omega
        have HBW : Hid (Below W.heap.size W wr) := Lib.hid (HB.out.trans (hin.below.mono HB.out.size))
        have kc := hin.str 0
        have kc2 : (convert 55 9 (.slice va vn vc)).run Try.prog wr = .ok (.string ⟨l.toArray⟩) wr := kc
        clear hin hpre hll kc
        rcases ys with _ | ⟨x, ys⟩
        · have hs' : s' = .nil := by
            rcases s' with _ | ⟨u, s'⟩
            · rfl
            · obtain ⟨x, zs, e, _⟩ := hsl; cases e
          subst hs'
          obtain rfl : j = xs.length := by simpa using hjx
          have HE3 : Hid (prefR (bs p) = (l, true)) := Lib.hid (by rw [HE2.out, HPR.out]; simp [pre])
          clear hsl hjx hg hxs hdn
          go_wp2_with fail
          go_ret2
          exact ⟨by rw [HE3.out]; rfl, HBW.out⟩
        · rcases s' with _ | ⟨u, s'⟩
          · cases hsl
          obtain ⟨x', zs, e, hu, hsl2⟩ := hsl
          injection e with e1 e2
          subst e1 e2
          obtain ⟨b, kind, pl, ch, cl, psv, rfl, hat, hpl⟩ := part_of u x hu
          have hjlt : j < xs.length := by simp at hjx; omega
          have hjlti : (j : Int) < (xs.length : Int) := by omega
          have hxj : xs[j]? = some (ptr b) := by rw [hxs, List.getElem?_append_right (by omega), hdn, Nat.sub_self]; rfl
          have hsa : ∃ g, sa = some ⟨g, 0, none⟩ ∧ xs.length ≤ sc := by
            rcases HPA.out.2 with ⟨e, h0⟩ | ⟨g, cap, cur, e, _, _, h3, _⟩
            · omega
            · injection e with e1 _ e3; exact ⟨g, e1, by omega⟩
          obtain ⟨g, rfl, hsc⟩ := hsa
          have hgl : g < w1.heap.size := by obtain ⟨C, hC⟩ := owns_type HPA.out (g := g) rfl; exact hC.lt
          have d1 : wr.cell? ⟨g, j, none⟩ = some (ptr b) := by rw [HIN.out.below.cell hgl]; exact owns_cell HPA.out rfl hxj
          have hat2 := hat.below HIN.out.below
          have d2 : wr.cell? ⟨b, 1, none⟩ = some (.bool pl) := hat2.cell 1
          have d3 : wr.cell? ⟨b, 2, none⟩ = some (.int .u8 ch) := hat2.cell 2
          have hmo : xs.length - (j + 1) < gk := by omega
          have HMO := Lib.hid hmo
          have HDN : Hid (xs = (dn ++ [ptr b]) ++ ys ∧ (dn ++ [ptr b]).length = j + 1) := Lib.hid ⟨by rw [hxs]; simp, by simp [hdn]⟩
          have HSL2 := Lib.hid hsl2
          clear hat hat2 hu hsl2 hxj hgl hmo hg hxs hdn hjx
          unfold ptr at d1
          rcases hpl with ⟨c, rfl, rfl, rfl⟩ | ⟨rfl, hpf⟩
          · have HPR2 : Hid (pre sq = ((l ++ [c]) ++ (pre s').1, (pre s').2)) := Lib.hid (by rw [HPR.out]; simp [pre])
            have hlb : l.length ≤ 100000 := by have := HLL.out; have := HXS.out; omega
            clear kc2
            go_wp2_with (at_builtin; (refine wpList_append_where _ rfl (.tmp 39) (.tmp 44) 55 rfl 5 i0 _ 1 1 Try.underlying55 HI.out HZ0.out HZ1.out HZ2.out rfl (by decide) (.slice va vn vc) l.length (l.map u8V) rfl (HIN.out.row.alloc _) ⟨wr.heap.size, 0, none⟩ 1 1 [u8V c] rfl (by decide) rfl (World.news_of_block (cs := #[u8V c]) (t := 5) (fr := (0, 0)) (heap_alloc_new _ _)) (one_u8 c) (len_u8 hlb) (bytes_u8 hlb) ?_))
            intro v' w4 hown hgrow hwhere
            have HA := Lib.hid (HIN.out.app hown hgrow hwhere)
            obtain ⟨ya, yn, yc, rfl⟩ := owns_slice hown
            clear hown hgrow hwhere
            go_wp2_with fail
            go_roundg (xs.length - (j + 1))
            case measure => exact HMO.out
            case rel => exact ⟨j + 1, dn ++ [ptr b], ys, s', l ++ [c], rfl, HDN.out.1, HDN.out.2, rfl, HSL2.out, HPR2.out, by rw [List.length_append, HLL.out]; rfl, HA.out⟩
          · have HE3 : Hid (prefR (bs p) = (l, false)) := Lib.hid (by rw [HE2.out, HPR.out, hpf]; simp)
            clear hpf
            go_wp2_with fail
            go_ret2
            exact ⟨by rw [HE3.out]; rfl, HBW.out⟩
    · have HE2 : Hid (prefR (bs p) = ([], false)) := Lib.hid (by unfold prefR; rw [ha])
      obtain ⟨tb, sv, xs, _, rfl, hat, _⟩ := hv
      have c0 : w1.cell? ⟨tb, 0, none⟩ = some (.int .i64 2) := hat.cell 0
      clear ha hat hsz
      unfold ptr
      go_wp2_with fail
      go_ret2
      exact ⟨by rw [HE2.out]; rfl, HB.out⟩
end Go.Proofs.Ytheblleadjbndaa
