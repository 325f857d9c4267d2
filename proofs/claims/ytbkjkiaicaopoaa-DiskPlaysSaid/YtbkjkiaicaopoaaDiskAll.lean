/-
  All of a disk's sectors, as the laws read them.
-/
import Derived.Test.YtbkjkiaicaopoaaDiskNil
import Derived.Test.YtbkjkiaicaopoaaBytesStr
namespace Go.Proofs.Ytbkjkiaicaopoaa.Dk
open Go.RowKit Go.Proofs.Ytbkjkiaicaopoaa

theorem infoS : (Try.prog.info? 9).map (fun i => (i.zero, i.size, i.bytes)) = some (some (.string ByteArray.empty), 1, 16) := by kernel_rfl
theorem string_one (x : ByteArray) : (Value.string x).oneCell' = true := rfl
def DiskSt.all (d : DiskSt) : List ByteArray := (List.range d.last.length).map fun i => strB (d.sector i)
set_option maxRecDepth 100000 in
theorem all_any {E w : World} {p : Nat} {d : DiskSt} {L : List HP} (H : sat E w (disk p d :: L)) (hz2 : d.size ≤ 1048576) (hok : d.ok) (hw : d.waits.length < 1048576) (hdk : d.dark = false) (hn : d.last.length < 1048576) :
    Calls Try.prog 18 #[.pointer (some ⟨p, 0, none⟩)] w fun e w' => ∃ A c, e = .returned (.slice A d.last.length c) ∧ sat E w' (vec 9 Value.string A d.last.length c d.all :: disk p d :: L) := by
  have HE := Lib.hid (H.emptyLit Value.string 9)
  have HOK := Lib.hid hok
  have HD := Lib.hid hdk
  have HWT := Lib.hid hw
  have HN := Lib.hid hn
  have HZ := Lib.hid hz2
  have hni : (d.last.length : Int) < 1048576 := by omega
  clear H hok hdk hw hn hz2
  go_enter Try.func18, Try.ntmps18
  go_wp2
  go_loopw [3, 4] (fun o i wr => ∃ (k c : Nat) (A : Option Addr), k ≤ d.last.length ∧ o = .slice A k c ∧ i = .int .i64 k ∧ sat E wr (vec 9 Value.string A k c ((List.range k).map fun i => strB (d.sector i)) :: disk p d :: L)) (fun _ i _ => d.last.length - (intOf i).toNat)
  case atStart => exact ⟨0, 0, _, Nat.zero_le _, rfl, rfl, HE.out⟩
  case round =>
    obtain ⟨k, c, A, hk, rfl, rfl, H⟩ := hrel
    have HS := Lib.hid (Sectors_any H.pull1)
    have HH := Lib.hid H
    clear H HE
    by_cases hlt : k < d.last.length
    · have k1 : (k : Int) < (d.last.length : Int) := by omega
      have kb : k < 1099511627776 := by have := HN.out; omega
      have KB := Lib.hid kb
      have HR := Read_any (k : Int) HH.out.pull1 HZ.out HOK.out HWT.out
      have er : d.read (k : Int) = (0, d.sector k) := by
        unfold DiskSt.read
        rw [HD.out, if_neg (by simp), if_pos ⟨by omega, by omega⟩, Int.toNat_natCast]
      rw [er] at HR
      replace HR := Lib.hid HR
      clear er kb HH
      (go_wp2_with fail)
      refine (HS.out).mono ?_
      rintro e w' ⟨rfl, rfl⟩
      clear HS
      go_wp2_with fail
      refine HR.out.mono ?_
      rintro e w' ⟨⟨SA, sn, sc, sl⟩, hl, rfl, H⟩
      dsimp only at hl
      dsimp only [Sec.v]
      have cv := conv_sl (P := Try.prog) (w := w') (c := sc) Try.underlying30 Try.underlying5 Try.underlying9 (sat.len H) (sat.Sl H)
      have HV := Lib.hid H.pull2
      have HL := Lib.hid hl
      clear H HR hl
      go_wp2_with (at_builtin; go_must (refine wpList_app1 rfl (.tmp 20) (.tmp 23) 34 rfl infoS Try.underlying34 rfl (by decide) HV.out (strB sl) rfl rfl rfl rfl (string_one _) KB.out ?_))
      intro A2 c2 w2 H2
      have H3 : sat E w2 (vec 9 Value.string A2 (k + 1) c2 ((List.range (k + 1)).map fun i => strB (d.sector i)) :: disk p d :: L) := by
        rw [List.range_succ, List.map_append, List.map_singleton, ← HL.out]
        exact H2.choose 3 [0, 2] rfl rfl
      have H4 := Lib.hid H3
      clear H2 H3 HV cv
      go_wp2
      go_roundw
      case rel => exact ⟨k + 1, c2, A2, by omega, rfl, by go_num, H4.out⟩
      case measure => simp [intOf] <;> omega
    · obtain rfl : k = d.last.length := by omega
      have k1 : ¬ (d.last.length : Int) < (d.last.length : Int) := by omega
      (go_wp2_with fail)
      refine (HS.out).mono ?_
      rintro e w' ⟨rfl, rfl⟩
      go_wp2
      go_ret
      exact ⟨_, _, rfl, HH.out⟩
end Go.Proofs.Ytbkjkiaicaopoaa.Dk
