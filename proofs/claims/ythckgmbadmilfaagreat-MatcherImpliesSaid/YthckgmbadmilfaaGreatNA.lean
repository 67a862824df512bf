/- Walks: the law MatcherImplies. -/
import Derived.Test.YthckgmbadmilfaaGreatMBW
namespace Go.Proofs.YthckgmbadmilfaaGreat
open Go.RowKit

set_option maxRecDepth 100000 in
set_option maxHeartbeats 8000000 in
theorem wkImplies (ms : List Mt) (A : Option Addr) (c : Nat) (ns : List Mt) (A3 : Option Addr) (c3 : Nat) (ls : List Lab) (A2 : Option Addr) (c2 : Nat) (w : World) (hm : MtsOk w ms A c) (hm3 : MtsOk w ns A3 c3) (hl : LabsOk w ls A2 c2) :
    Calls Tryz.prog 10 #[.slice A ms.length c, .slice A3 ns.length c3, .slice A2 ls.length c2] w fun e w' => e = .returned (.bool true) ∧ Below w.heap.size w w' := by
  have HAW := Lib.hid awakeM_any
  have HM := Lib.hid hm.rd
  have HN3 := Lib.hid hm3.rd
  have HL := Lib.hid hl.rd
  have HLL := Lib.hid hl.len
  have HLC := Lib.hid hl.cap
  have HMN := Lib.hid (fun y hy => (hm.name y hy).1)
  have HNN := Lib.hid (fun y hy => (hm3.name y hy).1)
  have hX : (w.alloc (.cells #[.slice A ms.length c, .slice A3 ns.length c3] 22)).cell? ⟨w.heap.size, 0, none⟩ = some (.slice A ms.length c) := (At.new w #[.slice A ms.length c, .slice A3 ns.length c3] 22).cell 0
  have hX2 : (w.alloc (.cells #[.slice A ms.length c, .slice A3 ns.length c3] 22)).cell? ⟨w.heap.size, 1, none⟩ = some (.slice A3 ns.length c3) := (At.new w #[.slice A ms.length c, .slice A3 ns.length c3] 22).cell 1
  have hal : Below w.heap.size w (w.alloc (.cells #[.slice A ms.length c, .slice A3 ns.length c3] 22)) := (Below.refl _ _).alloc (Nat.le_refl _) _
  have HG := Lib.hid (great2_any w.heap.size A A3 c c3 ms ns (w.alloc (.cells #[.slice A ms.length c, .slice A3 ns.length c3] 22)) hX hX2 (hm.rd.up hal hal.size) (hm3.rd.up hal hal.size) hm.len hm3.len)
  have HB0 := Lib.hid hal
  clear hal hX hX2 hm hm3 hl
  go_enter Tryz.func10, Tryz.ntmps10
  go_wp2_with fail
  refine HG.out.mono ?_
  rintro e w1 ⟨rfl, q, hw1⟩
  have HB1 : Hid (Below w.heap.size w w1) := Lib.hid (by rw [hw1]; exact bN HB0.out q)
  clear hw1 HG
  rcases hg : (greatM ms || greatM ns) with _ | _
  · clear hg
    have HGL := Lib.hid (great05_any A2 c2 ls w1.heap.size w1 ((HL.out.below HB1.out).mono HB1.out.size) HLC.out HLL.out)
    rcases hgl : greatL ls with _ | _
    · obtain ⟨hll, hlv⟩ := greatL_vals hgl
      rw [hgl] at HGL
      have HLV : Hid (∀ x ∈ ls, x.value.size ≤ 40000) := Lib.hid (fun x hx => by have := hlv x hx; omega)
      clear hgl hlv hll
      have HCH := Lib.hid (checkMsR_any A c ms w1 (HM.out.up HB1.out HB1.out.size) HMN.out)
      by_cases hck : chkMs ms = 0
      · rw [hck] at HCH
        have HCK := Lib.hid hck
        clear hck
        go_wp2_with fail
        refine HGL.out.mono ?_
        rintro e w1' ⟨rfl, rfl⟩
        go_wp2_with fail
        refine HCH.out.mono ?_
        rintro e w2 ⟨rfl, hb2⟩
        have HB2 := Lib.hid (HB1.out.trans (hb2.mono HB1.out.size))
        clear hb2 HCH HGL
        have HCH := Lib.hid (checkMsR_any A3 c3 ns w2 (HN3.out.up HB2.out HB2.out.size) HNN.out)
        by_cases hck : chkMs ns = 0
        · rw [hck] at HCH
          clear hck
          have HSF : Hid (impM ms ms = true) := Lib.hid (imp_self HCK.out)
          have HIP := Lib.hid (fun (h1 : impM ms ns = true) (h2 : matM ms ls = true) => imp_mat h1 ls h2)
          go_wp2_with fail
          refine HCH.out.mono ?_
          rintro e w3 ⟨rfl, hb3⟩
          have HB3 := Lib.hid (HB2.out.trans (hb3.mono HB2.out.size))
          clear hb3 HCH
          have HI := Lib.hid (impliesF_any A A3 c c3 ms ns w3 (HM.out.up HB3.out HB3.out.size) (HN3.out.up HB3.out HB3.out.size))
          rcases hi : impM ms ns with _ | _
          · rw [hi] at HI
            clear hi
            go_wp2_with fail
            refine HI.out.mono ?_
            rintro e w4 ⟨rfl, hb4⟩
            have HB4 := Lib.hid (HB3.out.trans (hb4.mono HB3.out.size))
            clear hb4 HI
            have HIS := Lib.hid (impliesF_any A A c c ms ms w4 (HM.out.up HB4.out HB4.out.size) (HM.out.up HB4.out HB4.out.size))
            rw [HSF.out] at HIS
            go_wp2_with fail
            refine HIS.out.mono ?_
            rintro e w7 ⟨rfl, hb7⟩
            have HB7 := Lib.hid (HB4.out.trans (hb7.mono HB4.out.size))
            clear hb7 HIS
            go_wp2_with fail
            refine (HAW.out w7).mono ?_
            rintro e w8 ⟨rfl, hb8⟩
            go_wp2_with fail
            go_ret
            exact ⟨rfl, HB7.out.trans (hb8.mono HB7.out.size)⟩
          · rw [hi] at HI
            have HIP2 := Lib.hid (HIP.out hi)
            clear hi
            go_wp2_with fail
            refine HI.out.mono ?_
            rintro e w4 ⟨rfl, hb4⟩
            have HB4 := Lib.hid (HB3.out.trans (hb4.mono HB3.out.size))
            clear hb4 HI
            have HMA := Lib.hid (mmatches_any A A2 c c2 ms ls w4 (HM.out.up HB4.out HB4.out.size) ((HL.out.below HB4.out).mono HB4.out.size) HLL.out HLV.out)
            rcases hmv : matM ms ls with _ | _
            · rw [hmv] at HMA
              clear hmv
              go_wp2_with fail
              refine HMA.out.mono ?_
              rintro e w5 ⟨rfl, hb5⟩
              have HB5 := Lib.hid (HB4.out.trans (hb5.mono HB4.out.size))
              clear hb5 HMA
              have HIS := Lib.hid (impliesF_any A A c c ms ms w5 (HM.out.up HB5.out HB5.out.size) (HM.out.up HB5.out HB5.out.size))
              rw [HSF.out] at HIS
              go_wp2_with fail
              refine HIS.out.mono ?_
              rintro e w7 ⟨rfl, hb7⟩
              have HB7 := Lib.hid (HB5.out.trans (hb7.mono HB5.out.size))
              clear hb7 HIS
              go_wp2_with fail
              refine (HAW.out w7).mono ?_
              rintro e w8 ⟨rfl, hb8⟩
              go_wp2_with fail
              go_ret
              exact ⟨rfl, HB7.out.trans (hb8.mono HB7.out.size)⟩
            · rw [hmv] at HMA
              have HM2 : Hid (matM ns ls = true) := Lib.hid (HIP2.out hmv)
              clear hmv
              go_wp2_with fail
              refine HMA.out.mono ?_
              rintro e w5 ⟨rfl, hb5⟩
              have HB5 := Lib.hid (HB4.out.trans (hb5.mono HB4.out.size))
              clear hb5 HMA
              have HMA := Lib.hid (mmatches_any A3 A2 c3 c2 ns ls w5 (HN3.out.up HB5.out HB5.out.size) ((HL.out.below HB5.out).mono HB5.out.size) HLL.out HLV.out)
              rw [HM2.out] at HMA
              go_wp2_with fail
              refine HMA.out.mono ?_
              rintro e w6 ⟨rfl, hb6⟩
              have HB6 := Lib.hid (HB5.out.trans (hb6.mono HB5.out.size))
              clear hb6 HMA
              have HIS := Lib.hid (impliesF_any A A c c ms ms w6 (HM.out.up HB6.out HB6.out.size) (HM.out.up HB6.out HB6.out.size))
              rw [HSF.out] at HIS
              go_wp2_with fail
              refine HIS.out.mono ?_
              rintro e w7 ⟨rfl, hb7⟩
              have HB7 := Lib.hid (HB6.out.trans (hb7.mono HB6.out.size))
              clear hb7 HIS
              go_wp2_with fail
              refine (HAW.out w7).mono ?_
              rintro e w8 ⟨rfl, hb8⟩
              go_wp2_with fail
              go_ret
              exact ⟨rfl, HB7.out.trans (hb8.mono HB7.out.size)⟩
        · obtain ⟨r, hr⟩ : ∃ r, chkMs ns = r := ⟨_, rfl⟩
          rw [hr] at HCH hck
          have hrb : (r != (0 : Int)) = true := by simp [hck]
          clear hr hck
          go_wp2_with fail
          refine HCH.out.mono ?_
          rintro e w3 ⟨rfl, hb3⟩
          have HB3 := Lib.hid (HB2.out.trans (hb3.mono HB2.out.size))
          clear hb3 HCH
          go_wp2_with fail
          refine (HAW.out w3).mono ?_
          rintro e w8 ⟨rfl, hb8⟩
          go_wp2_with fail
          go_ret
          exact ⟨rfl, HB3.out.trans (hb8.mono HB3.out.size)⟩
      · obtain ⟨r, hr⟩ : ∃ r, chkMs ms = r := ⟨_, rfl⟩
        rw [hr] at HCH hck
        have hrb : (r != (0 : Int)) = true := by simp [hck]
        clear hr hck
        go_wp2_with fail
        refine HGL.out.mono ?_
        rintro e w1' ⟨rfl, rfl⟩
        go_wp2_with fail
        refine HCH.out.mono ?_
        rintro e w2 ⟨rfl, hb2⟩
        have HB2 := Lib.hid (HB1.out.trans (hb2.mono HB1.out.size))
        clear hb2 HCH HGL
        go_wp2_with fail
        refine (HAW.out w2).mono ?_
        rintro e w8 ⟨rfl, hb8⟩
        go_wp2_with fail
        go_ret
        exact ⟨rfl, HB2.out.trans (hb8.mono HB2.out.size)⟩
    · rw [hgl] at HGL
      clear hgl
      go_wp2_with fail
      refine HGL.out.mono ?_
      rintro e w1' ⟨rfl, rfl⟩
      go_wp2_with fail
      refine (HAW.out _).mono ?_
      rintro e w8 ⟨rfl, hb8⟩
      go_wp2_with fail
      go_ret
      exact ⟨rfl, HB1.out.trans (hb8.mono HB1.out.size)⟩
  · clear hg
    go_wp2_with fail
    refine (HAW.out w1).mono ?_
    rintro e w8 ⟨rfl, hb8⟩
    go_wp2_with fail
    go_ret
    exact ⟨rfl, HB1.out.trans (hb8.mono HB1.out.size)⟩
end Go.Proofs.YthckgmbadmilfaaGreat
