/-
  Bytes as a text: 'string(b)' of a slice that reads as a list of bytes.
-/
import Derived.Test.YtbkjkiaicaopoaaSlice
import Derived.Laws.BytesArg
namespace Go.Proofs.Ytbkjkiaicaopoaa
open Go.RowKit

def strB (l : List UInt8) : ByteArray := ⟨l.toArray⟩
theorem strB_toList (l : List UInt8) : (strB l).data.toList = l := rfl
theorem strB_size (l : List UInt8) : (strB l).size = l.length := by simp [strB, ByteArray.size]
theorem strB_inj {a b : List UInt8} (h : strB a = strB b) : a = b := by
  have := congrArg (fun s : ByteArray => s.data.toList) h
  exact this

theorem conv_sl {P : Program} {w : World} {src e dst : TypeId} (hs : P.underlying src = some (.slice e)) (he : P.underlying e = some (.int .u8)) (hd : P.underlying dst = some .string)
    {A : Option Addr} {n c : Nat} {l : List UInt8} (hn : l.length = n) (hl : Sl B8 w A l) : (convert src dst (.slice A n c)).run P w = .ok (.string (strB l)) w := by
  subst hn
  have hstr : strOfNums (l.map fun b => (b.toNat : Int)) = strB l := by
    unfold strOfNums strB
    congr 1
    rw [List.map_map]
    congr 1
    conv => rhs; rw [← List.map_id l]
    apply List.map_congr_left
    intro b _
    show UInt8.ofNat ((b.toNat : Int)).toNat = b
    rw [Int.toNat_natCast, UInt8.ofNat_toNat]
  by_cases h0 : 0 < l.length
  · obtain ⟨b, o, rfl, _, hc⟩ := hl h0
    have := run_convert_bytes_arg (P := P) w src e hs he b o l.length c (l.map fun b => (b.toNat : Int)) (by simp) (fun i hi => by
      obtain ⟨x, hx⟩ : ∃ x, l[i]? = some x := ⟨_, List.getElem?_eq_getElem hi⟩
      rw [hc i x hx, List.getD_eq_getElem?_getD, List.getElem?_map, hx]; rfl) dst hd
    rw [this, hstr]
  · have hl0 : l = [] := List.length_eq_zero_iff.1 (by omega)
    subst hl0
    cases A with
    | none => rw [run_convert_bytes_nil w src e hs he _ _ dst hd]; rfl
    | some a =>
      have hl : (loadCells a ([] : List Int).length).run P w = .ok (([] : List Int).map (Value.int .u8)).toArray w := by
        have := run_loadCells_list (P := P) w a [] (fun j v hj => by simp at hj)
        simpa using this
      rw [run_convert_bytes_string w src dst e _ _ c hs he hd]
      have := run_bytesToString (P := P) w a 0 c [] hl
      have e : strB [] = ByteArray.empty := rfl
      rw [e]; simpa using this
end Go.Proofs.Ytbkjkiaicaopoaa
