/-
  Rules as values; what of a rule a network is made of; how rules are made such as may be. Plain numbers.
-/
import Derived.Test.YteellpcagdnikaaRule
namespace Go.Th
/-- A rule: its address, its length, its action, its node. -/
structure Ru where
  a : Int
  n : Int
  act : Int
  next : Int
deriving DecidableEq
def Ru.cs (r : Ru) : List Value := [.int .u32 r.a, .int .i64 r.n, .int .i64 r.act, .int .i64 r.next]
def Ru.v (r : Ru) : Value := .agg #[.int .u32 r.a, .int .i64 r.n, .int .i64 r.act, .int .i64 r.next]
/-- Its parts are numbers of their types. -/
structure Ru.Ok (r : Ru) : Prop where
  a : 0 ≤ r.a ∧ r.a ≤ 4294967295
  n : -9223372036854775808 ≤ r.n ∧ r.n ≤ 9223372036854775807
  act : -9223372036854775808 ≤ r.act ∧ r.act ≤ 9223372036854775807
  next : -9223372036854775808 ≤ r.next ∧ r.next ≤ 9223372036854775807
theorem Ru.cs_length (r : Ru) : r.cs.length = 4 := rfl
def Ru.cmp (r s : Ru) : Int := pcmp r.a r.n s.a s.n
def Ru.holds (r : Ru) (x : Int) : Bool := Th.holds r.a r.n x
/-- May. -/
def Ru.may (r : Ru) (nodes : Int) : Int :=
  if pmay r.a r.n ≠ 0 then pmay r.a r.n
  else if r.act = 1 then (if r.next < 0 ∨ nodes ≤ r.next then 10 else 0)
  else if r.act = 2 ∨ r.act = 3 then (if r.next ≠ 0 then 10 else 0)
  else 9
/-- An address's first bits, the others 0. -/
def lead (a n : Int) : Int := ((a.toNat / 2 ^ sh n * 2 ^ sh n : Nat) : Int)
/-- A rule that may be. -/
def Ru.fit (r : Ru) (nodes : Int) : Ru :=
  { a := lead r.a (r.n % 33), n := r.n % 33, act := if r.act % 3 = 0 then 3 else r.act % 3, next := if r.act % 3 = 1 then r.next % nodes else 0 }
theorem lead_and (a n : Int) (h : 0 ≤ a ∧ a ≤ 4294967295) : bits .and .u32 a (maskN n : Nat) = lead a n := by
  obtain ⟨a, rfl⟩ := Int.eq_ofNat_of_zero_le h.1
  rw [and_u32 a (maskN n) (by omega) (maskN_lt n)]
  unfold lead maskN
  rw [and_high a _ (by omega) (sh_le n), Int.toNat_natCast]
theorem lead_bd (a n : Int) (h : 0 ≤ a ∧ a ≤ 4294967295) : 0 ≤ lead a n ∧ lead a n ≤ 4294967295 := by
  unfold lead
  have := Nat.div_mul_le_self a.toNat (2 ^ sh n)
  omega
theorem tmod_bd (x m : Int) (hm : 0 < m) : -m < x.tmod m ∧ x.tmod m < m := by
  rcases Int.le_total 0 x with h | h
  · have h1 := Int.tmod_nonneg m h
    have h2 := Int.tmod_lt_of_pos x hm
    omega
  · have h1 := Int.tmod_nonneg m (show 0 ≤ -x by omega)
    have h2 := Int.tmod_lt_of_pos (-x) hm
    rw [Int.neg_tmod] at h1 h2
    omega
theorem tmod_up (x m : Int) : (x.tmod m + m) % m = x % m := by
  rw [Int.add_emod_right]
  have h : x.tmod m = x - m * (x.tdiv m) := by have := Int.tmod_add_mul_tdiv x m; omega
  rw [h, Int.sub_mul_emod_self_left]
theorem Ru.fit_ok (r : Ru) (nodes : Int) (h : r.Ok) (hn : 1 ≤ nodes ∧ nodes ≤ 4611686018427387904) : (r.fit nodes).Ok := by
  have h1 := lead_bd r.a (r.n % 33) h.a
  have h2 := Int.emod_nonneg r.next (b := nodes) (by omega)
  have h3 := Int.emod_lt_of_pos r.next (b := nodes) (by omega)
  refine ⟨h1, ?_, ?_, ?_⟩
  · show _ ≤ r.n % 33 ∧ r.n % 33 ≤ _; omega
  · show _ ≤ (if r.act % 3 = 0 then 3 else r.act % 3) ∧ (if r.act % 3 = 0 then 3 else r.act % 3) ≤ _; split <;> omega
  · show _ ≤ (if r.act % 3 = 1 then r.next % nodes else 0) ∧ (if r.act % 3 = 1 then r.next % nodes else 0) ≤ _; split <;> omega
theorem Ru.fit_node (r : Ru) (nodes : Int) : (r.fit nodes).n = r.n % 33 ∧ 0 ≤ r.n % 33 ∧ r.n % 33 ≤ 32 := ⟨rfl, by omega, by omega⟩
end Go.Th
