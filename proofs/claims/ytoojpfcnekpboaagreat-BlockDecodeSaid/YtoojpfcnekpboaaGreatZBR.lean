/- A directory that the reference reads: plain Lean. Walks: a file's directory (the program's). -/
import Derived.Test.YtoojpfcnekpboaaGreatZBK
import Derived.Test.YtoojpfcnekpboaaGreatZBQ
import Derived.Test.YtoojpfcnekpboaaGreatZBO
namespace Go.Proofs.YtoojpfcnekpboaaGreat

def qRaw (st : RS) : RI :=
  let a := qNum st
  let t := qPart a.2
  let z := qPart t.2
  let o := qNum z.2
  let q := qNum o.2
  ⟨a.1, t.1, z.1, o.1, q.1, q.2⟩
def qOk (r : RI) : Prop := (parE r.text).2 = 0 ∧ (zD r.zone).2 = 0 ∧ 4 ≤ r.size ∧ r.size ≤ 262148
instance (r : RI) : Decidable (qOk r) := by unfold qOk; infer_instance
def qOf (r : RI) : Itm := ⟨r.sig, (parE r.text).1, (zD r.zone).1, r.off, r.size⟩
/-- The first k items, and the reader behind them. -/
def qF (st : RS) : Nat → Option (List Itm × RS)
  | 0 => some ([], st)
  | k + 1 => (qF st k).bind fun p => if qOk (qRaw p.2) then some (p.1 ++ [qOf (qRaw p.2)], (qRaw p.2).st) else none
theorem qF_step {st u : RS} {k : Nat} {acc : List Itm} (h : qF st k = some (acc, u)) (ho : qOk (qRaw u)) : qF st (k + 1) = some (acc ++ [qOf (qRaw u)], (qRaw u).st) := by
  show (qF st k).bind _ = _
  rw [h]
  simp only [Option.bind_some]
  rw [if_pos ho]
theorem qF_stop {st u : RS} {k : Nat} {acc : List Itm} (h : qF st k = some (acc, u)) (ho : ¬ qOk (qRaw u)) : qF st (k + 1) = none := by
  show (qF st k).bind _ = _
  rw [h]
  simp only [Option.bind_some]
  rw [if_neg ho]
/-- What is known of an item that the reference has read. -/
structure QI (x : Itm) : Prop where mk ::
  sig : 0 ≤ x.sig ∧ x.sig ≤ 1152921504606846976
  off : 0 ≤ x.off ∧ x.off ≤ 1152921504606846976
  size : 4 ≤ x.size ∧ x.size ≤ 262148
  labs : chkL x.labs = 0
  zone : zchk x.zone = 0
  word : ZW x.zone
theorem qRaw_bounds (st : RS) : (0 ≤ (qRaw st).sig ∧ (qRaw st).sig ≤ 1152921504606846976) ∧ (0 ≤ (qRaw st).off ∧ (qRaw st).off ≤ 1152921504606846976) ∧ (0 ≤ (qRaw st).size ∧ (qRaw st).size ≤ 1152921504606846976) ∧ (qRaw st).st.rest.size ≤ st.rest.size ∧ (qRaw st).text.size ≤ st.rest.size ∧ (qRaw st).zone.size ≤ st.rest.size := by
  have h1 := qNum_bounds st
  have h2 := qPart_bounds (qNum st).2
  have h3 := qPart_bounds (qPart (qNum st).2).2
  have h4 := qNum_bounds (qPart (qPart (qNum st).2).2).2
  have h5 := qNum_bounds (qNum (qPart (qPart (qNum st).2).2).2).2
  unfold qRaw
  simp only
  omega
theorem qOf_ok (st : RS) (h : qOk (qRaw st)) : QI (qOf (qRaw st)) := by
  obtain ⟨b1, b2, b3, _⟩ := qRaw_bounds st
  obtain ⟨h1, h2, h3, h4⟩ := h
  have k1 := parE_ok (qRaw st).text (parE (qRaw st).text).1 (by rw [← h1])
  have k2 := zD_ok (qRaw st).zone h2
  exact ⟨b1, b2, ⟨h3, h4⟩, k1.2, k2.2.1, k2.1⟩
theorem qF_ok (st : RS) : ∀ (k : Nat) (acc : List Itm) (u : RS), qF st k = some (acc, u) → acc.length = k ∧ (∀ x ∈ acc, QI x) ∧ u.rest.size ≤ st.rest.size
  | 0, acc, u, h => by
    injection h with h
    injection h with h1 h2
    subst h1 h2
    exact ⟨rfl, fun x hx => (by simp at hx), Nat.le_refl _⟩
  | k + 1, acc, u, h => by
    have h' : (qF st k).bind (fun p => if qOk (qRaw p.2) then some (p.1 ++ [qOf (qRaw p.2)], (qRaw p.2).st) else none) = some (acc, u) := h
    cases hq : qF st k with
    | none => rw [hq] at h'; cases h'
    | some p =>
      rw [hq] at h'
      simp only [Option.bind_some] at h'
      obtain ⟨i1, i2, i3⟩ := qF_ok st k p.1 p.2 hq
      by_cases ho : qOk (qRaw p.2)
      · rw [if_pos ho] at h'
        injection h' with h'
        injection h' with h1 h2
        subst h1 h2
        have hb := qRaw_bounds p.2
        refine ⟨by rw [List.length_append, i1]; rfl, fun x hx => ?_, by omega⟩
        rcases List.mem_append.1 hx with hx | hx
        · exact i2 x hx
        · rw [List.mem_singleton] at hx
          rw [hx]
          exact qOf_ok _ ho
      · rw [if_neg ho] at h'
        cases h'
/-! ### Directories of valid blocks -/
structure IAcc (d : ByteArray) (size id width fr : Int) (l : List Itm) : Prop where mk ::
  dir : bs d = dirB id width fr l
  chain : ChainI 0 l
  tot : sizes l = size
  its : ∀ x ∈ l, (4 ≤ x.size ∧ x.size ≤ 262148) ∧ chkL x.labs = 0 ∧ zchk x.zone = 0 ∧ ZW x.zone
  chk : bchk ⟨id, width, fr, l.map chkOf⟩ = 0
theorem sizes_pos : ∀ l : List Itm, (∀ x ∈ l, 4 ≤ x.size) → 0 ≤ sizes l
  | [], _ => by simp [sizes]
  | x :: r, h => by
    have h1 := h x List.mem_cons_self
    have h2 := sizes_pos r (fun y hy => h y (List.mem_cons_of_mem _ hy))
    unfold sizes at h2 ⊢
    rw [List.map_cons, List.sum_cons]
    omega
theorem chain_off : ∀ (l : List Itm) (a : Int), ChainI a l → (∀ x ∈ l, 4 ≤ x.size) → ∀ x ∈ l, a ≤ x.off ∧ x.off ≤ a + sizes l
  | [], _, _, _, x, hx => by simp at hx
  | y :: r, a, h, hs, x, hx => by
    have h1 := hs y List.mem_cons_self
    have h2 := sizes_pos r (fun z hz => hs z (List.mem_cons_of_mem _ hz))
    have e : sizes (y :: r) = y.size + sizes r := by unfold sizes; rw [List.map_cons, List.sum_cons]
    rcases List.mem_cons.1 hx with rfl | hx
    · rw [h.1, e]
      omega
    · have := chain_off r _ h.2 (fun z hz => hs z (List.mem_cons_of_mem _ hz)) x hx
      rw [e]
      omega
theorem chkL_small {l : List Lab} (h : chkL l = 0) : l.length ≤ 17 ∧ ∀ y ∈ l, y.name.size ≤ 61 ∧ y.value.size ≤ 201 := by
  have hn : ∀ s : ByteArray, nameB s = true → s.size ≤ 60 := fun s hs => by
    unfold nameB at hs
    simp only [Bool.and_eq_true, decide_eq_true_eq] at hs
    omega
  have hf : ∀ (l : List Lab) (p : Option ByteArray), chkFrom p l = 0 → ∀ y ∈ l, y.name.size ≤ 61 ∧ y.value.size ≤ 201 := fun l => by
    induction l with
    | nil => intro p _ y hy; simp at hy
    | cons x r ih =>
      intro p hp y hy
      unfold chkFrom at hp
      split at hp
      · rename_i hx
        split at hp
        · cases hp
        split at hp
        · cases hp
        rename_i h2
        split at hp
        · cases hp
        · rcases List.mem_cons.1 hy with rfl | hy
          · have := hn _ hx
            omega
          · exact ih _ hp y hy
      · cases hp
  unfold chkL at h
  split at h
  · cases h
  · exact ⟨by omega, hf l none h⟩
theorem QI.ok {x : Itm} (h : QI x) : ItmOK x := ⟨h.sig, h.off, by have := h.size; omega, ⟨h.zone, h.word⟩, (chkL_small h.labs).1, (chkL_small h.labs).2⟩
theorem IAcc.itF {d : ByteArray} {size id width fr : Int} {l : List Itm} (h : IAcc d size id width fr l) (hs : size ≤ 1000000) : ∀ x ∈ l, ItF x := fun x hx => by
  obtain ⟨h1, h2, h3, h4⟩ := h.its x hx
  have ho := chain_off l 0 h.chain (fun y hy => (h.its y hy).1.1) x hx
  rw [h.tot] at ho
  have hb := (bchk_zeroN h.chk).2.2.2.2.2.2.2
  have hc := cchk_zeroN (bchkFrom_all width none (l.map chkOf) hb (chkOf x) (List.mem_map_of_mem hx))
  have e : (chkOf x).sig = x.sig := rfl
  rw [e] at hc
  have hl := chkL_small h2
  have hf := fmtL_len2 x.labs hl.1 hl.2
  exact ⟨by omega, by omega, by omega, by omega, h1.1, h1.2, h2, h3, h4, by omega⟩
theorem qNum_vE (s : ByteArray) (n : Nat) (t : List UInt8) (hn : n ≤ 1152921504606846976) (h : bs s = vE n ++ t) : ∃ s', qNum ⟨s, false⟩ = ((n : Int), ⟨s', false⟩) ∧ bs s' = t := by
  have h1 := rdG_vE s n t hn h
  refine ⟨cutS s (vE n).length, ?_, by rw [cutS_bs, h, List.drop_left]⟩
  unfold qNum
  simp only [h1]
  rw [if_neg (by simp)]
  rfl
theorem qPart_app (s : ByteArray) (p t : List UInt8) (hn : p.length ≤ 1152921504606846976) (h : bs s = vE p.length ++ (p ++ t)) : ∃ s', qPart ⟨s, false⟩ = (str p, ⟨s', false⟩) ∧ bs s' = t := by
  obtain ⟨s1, e1, h1⟩ := qNum_vE s p.length _ hn h
  have hl := congrArg List.length h1
  rw [bs_length, List.length_append] at hl
  refine ⟨cutS s1 p.length, ?_, by rw [cutS_bs, h1, List.drop_left]⟩
  unfold qPart
  rw [e1]
  simp only
  rw [if_neg (by simp; omega), Int.toNat_natCast]
  congr 1
  refine bs_inj ?_
  rw [bs_ext, List.drop_zero, Nat.sub_zero, h1, List.take_left, bs_str]
theorem qRaw_itB (x : Itm) (hx : ItF x) (s : ByteArray) (t : List UInt8) (h : bs s = itB x ++ t) : ∃ s', qRaw ⟨s, false⟩ = ⟨x.sig, str (fmtL x.labs), str (zE x.zone), x.off, x.size, ⟨s', false⟩⟩ ∧ bs s' = t := by
  have hs0 := hx.s0; have hs1 := hx.s1; have ho0 := hx.o0; have ho1 := hx.o1; have hq0 := hx.q0; have hq1 := hx.q1
  unfold itB at h
  simp only [List.append_assoc] at h
  obtain ⟨a1, e1, h1⟩ := qNum_vE s x.sig.toNat _ (by omega) h
  obtain ⟨a2, e2, h2⟩ := qPart_app a1 (fmtL x.labs) _ hx.fl h1
  obtain ⟨a3, e3, h3⟩ := qPart_app a2 (zE x.zone) _ (by have := zE_len x.zone; omega) h2
  obtain ⟨a6, e6, h6⟩ := qNum_vE a3 x.off.toNat _ (by omega) h3
  obtain ⟨a7, e7, h7⟩ := qNum_vE a6 x.size.toNat _ (by omega) h6
  refine ⟨a7, ?_, h7⟩
  unfold qRaw
  simp only [e1, e2, e3, e6, e7]
  rw [show ((x.sig.toNat : Nat) : Int) = x.sig by omega, show ((x.off.toNat : Nat) : Int) = x.off by omega, show ((x.size.toNat : Nat) : Int) = x.size by omega]
theorem qOk_itB (x : Itm) (hx : ItF x) (u : RS) : qOk ⟨x.sig, str (fmtL x.labs), str (zE x.zone), x.off, x.size, u⟩ ∧ qOf ⟨x.sig, str (fmtL x.labs), str (zE x.zone), x.off, x.size, u⟩ = x := by
  have hp := parE_fmt (str (fmtL x.labs)) x.labs rfl hx.lb
  have hz := zD_zE x.zone hx.zn hx.zw
  refine ⟨⟨by show (parE (str (fmtL x.labs))).2 = 0; rw [hp], by show (zD (str (zE x.zone))).2 = 0; rw [hz], hx.q0, hx.q1⟩, ?_⟩
  unfold qOf
  simp only [hp, hz]
theorem qF_run (l : List Itm) (s : ByteArray) (hx : ∀ x ∈ l, ItF x) (h : bs s = l.flatMap itB) : ∀ k, k ≤ l.length → ∃ s', qF ⟨s, false⟩ k = some (l.take k, ⟨s', false⟩) ∧ bs s' = (l.drop k).flatMap itB
  | 0, _ => ⟨s, rfl, by rw [List.drop_zero]; exact h⟩
  | k + 1, hk => by
    obtain ⟨s1, h1, h2⟩ := qF_run l s hx h k (by omega)
    have hlt : k < l.length := hk
    rw [List.drop_eq_getElem_cons hlt, List.flatMap_cons] at h2
    have hm := hx _ (List.getElem_mem hlt)
    obtain ⟨s2, h3, h4⟩ := qRaw_itB _ hm s1 _ h2
    have ho := qOk_itB l[k] hm ⟨s2, false⟩
    refine ⟨s2, ?_, h4⟩
    rw [qF_step h1 (by rw [h3]; exact ho.1), h3, ho.2, List.take_succ_eq_append_getElem hlt]
/-- WHAT THE REFERENCE's READER MEETS IN A VALID DIRECTORY. -/
theorem IAcc.run {d : ByteArray} {size id width fr : Int} {l : List Itm} (h : IAcc d size id width fr l) (hs : size ≤ 1000000) :
    4 ≤ d.size ∧ d.extract 0 4 = str magicB ∧ l.length ≤ 4000 ∧ ∃ s1 s2 s3 s4, qNum ⟨cutS d 4, false⟩ = (id, ⟨s1, false⟩) ∧ qNum ⟨s1, false⟩ = (width, ⟨s2, false⟩) ∧ qNum ⟨s2, false⟩ = (fr, ⟨s3, false⟩) ∧ qNum ⟨s3, false⟩ = ((l.length : Int), ⟨s4, false⟩) ∧
      ∀ k, k ≤ l.length → ∃ s', qF ⟨s4, false⟩ k = some (l.take k, ⟨s', false⟩) ∧ bs s' = (l.drop k).flatMap itB := by
  obtain ⟨v1, v2, v3, v4, v5, v6, v7, _⟩ := bchk_zeroN h.chk
  have v1' : 1 ≤ id := v1
  have v2' : id ≤ 1152921504606846976 := v2
  have v3' : 0 ≤ width := v3
  have v4' : width ≤ 1099511627776 := v4
  have v5' : 0 ≤ fr := v5
  have v6' : fr ≤ 1099511627776 := v6
  have v7' : l.length ≤ 4000 := by have h7 : (l.map chkOf).length ≤ 4000 := v7; rw [List.length_map] at h7; exact h7
  have hd := h.dir
  unfold dirB headB at hd
  simp only [List.append_assoc] at hd
  have h4 := congrArg List.length hd
  rw [bs_length, List.length_append] at h4
  have hm : magicB.length = 4 := rfl
  have hx := h.itF hs
  have k0 : bs (cutS d 4) = vE id.toNat ++ (vE width.toNat ++ (vE fr.toNat ++ (vE l.length ++ l.flatMap itB))) := by rw [cutS_bs, hd]; exact List.drop_left (l₁ := magicB)
  obtain ⟨a1, e1, k1⟩ := qNum_vE (cutS d 4) id.toNat _ (by omega) k0
  obtain ⟨a2, e2, k2⟩ := qNum_vE a1 width.toNat _ (by omega) k1
  obtain ⟨a3, e3, k3⟩ := qNum_vE a2 fr.toNat _ (by omega) k2
  obtain ⟨a4, e4, k4⟩ := qNum_vE a3 l.length _ (by omega) k3
  rw [show ((id.toNat : Nat) : Int) = id by omega] at e1
  rw [show ((width.toNat : Nat) : Int) = width by omega] at e2
  rw [show ((fr.toNat : Nat) : Int) = fr by omega] at e3
  refine ⟨by omega, ?_, v7', a1, a2, a3, a4, e1, e2, e3, e4, qF_run l a4 hx k4⟩
  refine bs_inj ?_
  rw [bs_ext, List.drop_zero, Nat.sub_zero, hd, bs_str]
  exact List.take_left (l₁ := magicB)
end Go.Proofs.YtoojpfcnekpboaaGreat

namespace Go.Proofs.YtoojpfcnekpboaaGreat
open Go.RowKit Go.Shelf

theorem results_tmp4 {fn : Func} {t u v x : Tmp} (h : fn.results = #[.tmp t, .tmp u, .tmp v, .tmp x]) (tmps : Array Value) (P : Program) (w : World) :
    (results fn tmps).run P w = .ok (.tuple #[tmps.getD t undef, tmps.getD u undef, tmps.getD v undef, tmps.getD x undef]) w := by
  simp [results, h]
/-- What Directory answers. -/
def DrPost (s : ByteArray) (w : World) (e : Ending) (w' : World) : Prop := Below w.heap.size w w' ∧
  ((opE s = 0 ∧ ∃ A c, e = .returned (.tuple #[.int .i64 (opR s).id, .int .i64 (opR s).width, .slice A (opR s).items.length c, .int .i64 0]) ∧ ItmsT w' A (opR s).items ∧ (opR s).items.length ≤ c) ∨
   (opE s ≠ 0 ∧ e = .returned (.tuple #[.int .i64 0, .int .i64 0, .slice none 0 0, .int .i64 (opE s)])))
set_option maxRecDepth 100000 in
set_option maxHeartbeats 1000000 in
theorem dirOf_any (s : ByteArray) (w : World) (hs : s.size ≤ 100000) :
    Calls Tryz.prog 10 #[.string s] w (DrPost s w) := by
  have HS := Lib.hid hs
  clear hs
  go_enter Tryz.func10, Tryz.ntmps10
  go_wp2_with fail
  refine (open_any s w HS.out).mono ?_
  rintro e w1 ⟨hb, ⟨hop, A, c, A2, c2, rfl, hI, hIc, hC, hCc, hA2⟩ | ⟨hop, rfl⟩⟩
  · have HB := Lib.hid hb
    have HI := Lib.hid hI
    have HIC := Lib.hid hIc
    have HOP := Lib.hid hop
    have HCV := Lib.hid (blC_blk (opR s))
    clear hb hI hIc hC hCc hop hA2
    rw [HCV.out]
    obtain ⟨v1, hv1⟩ : ∃ v, (opR s).id = v := ⟨_, rfl⟩
    obtain ⟨v2, hv2⟩ : ∃ v, (opR s).width = v := ⟨_, rfl⟩
    obtain ⟨v3, hv3⟩ : ∃ v, (opR s).fr = v := ⟨_, rfl⟩
    obtain ⟨its, hits⟩ : ∃ its, (opR s).items = its := ⟨_, rfl⟩
    rw [hits] at HI HIC
    have HEQ : Hid ((opR s).id = v1 ∧ (opR s).width = v2 ∧ (opR s).items = its) := Lib.hid ⟨hv1, hv2, hits⟩
    rw [hv1, hv2, hv3, hits]
    clear hv1 hv2 hv3 hits HCV
    have HBX := Lib.hid (At.new w1 #[.int .i64 0, .int .i64 0, .int .i64 0, .slice none 0 0] 25)
    obtain ⟨V, hV⟩ : ∃ V, V = (#[.int .i64 v1, .int .i64 v2, .int .i64 v3, .slice A2 its.length c2] : Array Value) := ⟨_, rfl⟩
    rw [← hV]
    have hcs : V.size = 4 := by rw [hV]; rfl
    have HV1 : Hid ((V.all fun v => v.oneCell') = true) := Lib.hid (by rw [hV]; simp [Value.oneCell'])
    have HV := Lib.hid hV
    clear hV
    go_wp2_with (refine wpList_store_at rfl 25 (.tmp 6) (.tmp 12) rfl w1.heap.size V rfl rfl 25 _ HBX.out (by rw [hcs]; exact size_blk) hcs.symm HV1.out ?_)
    intro w2 HW2
    have HRR : Hid (Below w1.heap.size w1 w2) := Lib.hid (by rw [HW2.out]; exact below_row ((Below.refl _ _).alloc (Nat.le_refl _) _) _ _ (Nat.le_refl _))
    have HBX2 : Hid (At w2 w1.heap.size #[.int .i64 v1, .int .i64 v2, .int .i64 v3, .slice A2 its.length c2] 25) := Lib.hid (by rw [HW2.out, ← HV.out]; exact HBX.out.row)
    replace HI := Lib.hid (HI.out.kt (KT.below HRR.out) (KT.below HRR.out))
    replace HB := Lib.hid (HB.out.trans (HRR.out.mono HB.out.size))
    clear HW2 HRR HBX hcs HV1 HV
    generalize w1.heap.size = Bb at *
    have x0 : w2.cell? ⟨Bb, 0, none⟩ = some (.int .i64 v1) := HBX2.out.cell 0
    have x1 : w2.cell? ⟨Bb, 1, none⟩ = some (.int .i64 v2) := HBX2.out.cell 1
    have HDR : Hid (∀ w', w'.heap = w2.heap → w'.output = w2.output → w'.os = w2.os → Below w.heap.size w w' → DrPost s w (.returned (.tuple #[.int .i64 v1, .int .i64 v2, .slice A its.length c, .int .i64 0])) w') := Lib.hid (fun w' h1 _ _ hb => by
      unfold DrPost
      rw [HEQ.out.1, HEQ.out.2.1, HEQ.out.2.2]
      have hk : ∀ E, KT E w2 w' := fun E => ⟨by rw [h1]; exact Nat.le_refl _, fun b cs fz h => by rw [h1]; exact h⟩
      exact ⟨hb, .inl ⟨HOP.out, A, c, rfl, HI.out.kt (hk _) (hk _), HIC.out⟩⟩)
    go_wp2_with fail
    go_quiet (fail)
    go_wp2_with fail
    (try simp only [Exit.inBlock, Exit.then])
    refine bodyPost_ret (results_tmp4 rfl _ _ _) rfl ?_
    exact HDR.out _ rfl rfl rfl (bN HB.out _)
  · have HB := Lib.hid hb
    have HOP := Lib.hid hop
    have d1 : (opE s != 0) = true := bne_iff_ne.2 hop
    clear hb hop
    have HBX := Lib.hid (At.new w1 #[.int .i64 0, .int .i64 0, .int .i64 0, .slice none 0 0] 25)
    obtain ⟨V, hV⟩ : ∃ V, V = blC ⟨0, 0, 0, []⟩ none 0 := ⟨_, rfl⟩
    rw [← hV]
    have hcs : V.size = 4 := by rw [hV]; rfl
    have HV1 : Hid ((V.all fun v => v.oneCell') = true) := Lib.hid (by rw [hV]; exact blC_one _ _ _)
    clear hV
    obtain ⟨er, her⟩ : ∃ er, opE s = er := ⟨_, rfl⟩
    have HER := Lib.hid her
    rw [her] at d1
    rw [her]
    clear her
    go_wp2_with (refine wpList_store_at rfl 25 (.tmp 6) (.tmp 12) rfl w1.heap.size V rfl rfl 25 _ HBX.out (by rw [hcs]; exact size_blk) hcs.symm HV1.out ?_)
    intro w2 HW2
    have HRR : Hid (Below w1.heap.size w1 w2) := Lib.hid (by rw [HW2.out]; exact below_row ((Below.refl _ _).alloc (Nat.le_refl _) _) _ _ (Nat.le_refl _))
    replace HB := Lib.hid (HB.out.trans (HRR.out.mono HB.out.size))
    clear HW2 HRR HBX hcs HV1
    go_wp2_with fail
    (try simp only [Exit.inBlock, Exit.then])
    refine bodyPost_ret (results_tmp4 rfl _ _ _) rfl ?_
    unfold DrPost
    rw [← HER.out]
    exact ⟨HB.out, .inr ⟨HOP.out, rfl⟩⟩
end Go.Proofs.YtoojpfcnekpboaaGreat
