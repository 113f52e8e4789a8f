/-
  prefix.Ends.
-/
import Derived.Test.YtjandnidljbkoaaGreatGTpSort
set_option linter.unusedVariables false
namespace Go.Th
open Go.RowKit
def tailOf (a n:Int):Int:=lead a n+(2 ^ sh n - 1:Nat)
theorem or_u32 (a b:Nat) (ha:a < 4294967296) (hb:b < 4294967296):bits .or .u32 (a:Int) (b:Int)=((a ||| b:Nat):Int):=by
  have hx:a ||| b < 2 ^ 32:=Nat.or_lt_two_pow (by omega) (by omega)
  show IntKind.u32.wrap ((BitVec.ofInt 32 (a:Int) ||| BitVec.ofInt 32 (b:Int)).toNat:Int)=_
  rw [BitVec.toNat_or,BitVec.ofInt_natCast,BitVec.ofInt_natCast,BitVec.toNat_ofNat,BitVec.toNat_ofNat,Nat.mod_eq_of_lt (show a < 2 ^ 32 by omega),Nat.mod_eq_of_lt (show b < 2 ^ 32 by omega),IntKind.wrap_u32]
  omega
theorem or_low (a s:Nat):a ||| (2 ^ s - 1)=a / 2 ^ s * 2 ^ s+(2 ^ s - 1):=by
  have h:=Nat.shiftLeft_add_eq_or_of_lt (i:=s) (b:=2 ^ s - 1) (by have:1≤2 ^ s:=Nat.one_le_two_pow;omega) (a / 2 ^ s)
  rw [Nat.shiftLeft_eq] at h
  rw [h]
  apply Nat.eq_of_testBit_eq
  intro i
  rw [Nat.testBit_or,Nat.testBit_or,Nat.testBit_two_pow_sub_one,← Nat.shiftRight_eq_div_pow,← Nat.shiftLeft_eq,Nat.testBit_shiftLeft,Nat.testBit_shiftRight]
  by_cases h:i < s
  · simp [h]
  · simp [h,show s≤i by omega,show s+(i - s)=i by omega]
theorem tail_or (a n:Int) (h:0≤a∧a≤4294967295):bits .or .u32 a ((2 ^ sh n - 1:Nat):Int)=tailOf a n:=by
  obtain ⟨a,rfl⟩:=Int.eq_ofNat_of_zero_le h.1
  have hp:=pow_sh n
  rw [or_u32 _ _ (by omega) (by omega),or_low]
  unfold tailOf lead
  rw [Int.toNat_natCast]
  omega
theorem not_u32 (m:Nat) (h:m≤4294967295):bits .xor .u32 IntKind.u32.max (m:Int)=4294967295 - (m:Int):=by
  show IntKind.u32.wrap ((BitVec.ofInt 32 4294967295 ^^^ BitVec.ofInt 32 (m:Int)).toNat:Int)=_
  rw [show BitVec.ofInt 32 4294967295=BitVec.allOnes 32 by decide,BitVec.allOnes_xor,BitVec.toNat_not,BitVec.ofInt_natCast,BitVec.toNat_ofNat,Nat.mod_eq_of_lt (show m < 2 ^ 32 by omega),IntKind.wrap_u32]
  omega
end Go.Th
namespace Go.Proofs.YtjandnidljbkoaaGreat
open Go.RowKit Go.Th
theorem pends_any (a n:Int) (w:World) (ha:0≤a∧a≤4294967295) (hn:-9223372036854775808≤n∧n≤9223372036854775807) :
    Calls Tryz.prog 60 #[.int .u32 a,.int .i64 n] w (RetV (.tuple #[.int .u32 (lead a n),.int .u32 (tailOf a n)]) w):=by
  have K:=Lib.hid (fun w=>mask_any n w hn)
  have h1:=lead_and a n ha
  have h2:=tail_or a n ha
  have hp:=pow_sh n
  have hm:((2 ^ sh n - 1:Nat):Int)=4294967295 - (maskN n:Nat):=by unfold maskN;omega
  have hmb:maskN n≤4294967295:=by unfold maskN;omega
  rw [hm] at h2
  obtain ⟨mk,hmk⟩:∃ x:Nat,maskN n=x:=⟨_,rfl⟩
  rw [hmk] at K h1 h2 hmb
  obtain ⟨lo,hlo⟩:∃ x,lead a n=x:=⟨_,rfl⟩
  obtain ⟨hi,hhi⟩:∃ x,tailOf a n=x:=⟨_,rfl⟩
  rw [hlo] at h1 ⊢
  rw [hhi] at h2 ⊢
  have H1:=Lib.hid h1
  have H2:=Lib.hid h2
  clear h1 h2 hlo hhi hm hmk hp
  go_enter Tryz.func60,Tryz.ntmps60
  go_wp2_with (go_at_call 29;refine (K.out _).mono ?_;rintro e w1 ⟨rfl,rfl⟩)
  go_ret2
  refine ⟨?_,rfl⟩
  have h1:=H1.out
  have h2:=H2.out
  rw [← not_u32 mk hmb] at h2
  rw [← h1,← h2]
  rfl
end Go.Proofs.YtjandnidljbkoaaGreat
