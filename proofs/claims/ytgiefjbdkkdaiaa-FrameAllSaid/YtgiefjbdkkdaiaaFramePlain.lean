/-
  Frames and sections (layer 4) as laws on rows of bytes.
-/
import Derived.Test.YtgiefjbdkkdaiaaCrcPlain
import Derived.Test.YtgiefjbdkkdaiaaGroupMore
namespace Go.Th
def fhead (m : Nat) (bs : List UInt8) : List UInt8 := be m 4 ++ bs
def fput (m : Nat) (bs : List UInt8) : List UInt8 := fhead m bs ++ be (csum (fhead m bs)) 4
def ftake (m : Nat) (bs : List UInt8) : List UInt8 × Int :=
  if bs.length < 8 then ([], 2)
  else if bs.take 4 = be m 4 then
    (if bs.drop (bs.length - 4) = be (csum (bs.take (bs.length - 4))) 4 then ((bs.take (bs.length - 4)).drop 4, 0) else ([], 6))
  else ([], 5)
def fsec (tag : UInt8) (bs : List UInt8) : List UInt8 := tag :: (gput bs.length ++ bs)
def fopen (tag : UInt8) (bs : List UInt8) : List UInt8 × List UInt8 × Int :=
  match bs with
  | [] => ([], [], 2)
  | b :: r =>
    if b = tag then
      (if (gtake r).2.2 = 0 then
        (if (r.drop (gtake r).2.1).length < (gtake r).1 then ([], [], 2)
         else ((r.drop (gtake r).2.1).take (gtake r).1, (r.drop (gtake r).2.1).drop (gtake r).1, 0))
       else ([], [], (gtake r).2.2))
    else ([], [], 3)
theorem fopen_cons (tag b : UInt8) (r : List UInt8) : fopen tag (b :: r) = if b = tag then
      (if (gtake r).2.2 = 0 then
        (if (r.drop (gtake r).2.1).length < (gtake r).1 then ([], [], 2)
         else ((r.drop (gtake r).2.1).take (gtake r).1, (r.drop (gtake r).2.1).drop (gtake r).1, 0))
       else ([], [], (gtake r).2.2))
    else ([], [], 3) := rfl
theorem fhead_length (m : Nat) (bs : List UInt8) : (fhead m bs).length = bs.length + 4 := by simp [fhead, be_length]; omega
theorem fput_length (m : Nat) (bs : List UInt8) : (fput m bs).length = bs.length + 8 := by simp [fput, fhead_length, be_length]
theorem fput_inj {m k : Nat} {bs cs : List UInt8} (hm : m < 4294967296) (hk : k < 4294967296) : fput m bs = fput k cs ↔ m = k ∧ bs = cs := by
  constructor
  · intro h
    have hl := congrArg List.length h
    rw [fput_length, fput_length] at hl
    have h1 := (List.append_inj h (by rw [fhead_length, fhead_length]; omega)).1
    have h2 := List.append_inj h1 (by rw [be_length, be_length])
    exact ⟨(be_inj m k 4 (by omega) (by omega)).1 h2.1, h2.2⟩
  · rintro ⟨rfl, rfl⟩; rfl
theorem ftake_parts {m : Nat} {bs h s : List UInt8} (hh : 4 ≤ h.length) (hs : s.length = 4) (hb : bs = h ++ s) :
    ftake m bs = if h.take 4 = be m 4 then (if s = be (csum h) 4 then (h.drop 4, 0) else ([], 6)) else ([], 5) := by
  subst hb
  have hl : (h ++ s).length = h.length + 4 := by simp [hs]
  unfold ftake
  rw [hl, if_neg (by omega), Nat.add_sub_cancel, List.take_append_of_le_length hh, List.drop_left, List.take_left]
theorem ftake_fput (m : Nat) (bs : List UInt8) : ftake m (fput m bs) = (bs, 0) := by
  rw [ftake_parts (bs := fput m bs) (h := fhead m bs) (s := be (csum (fhead m bs)) 4) (by rw [fhead_length]; omega) (be_length _ _) rfl]
  have e1 : (fhead m bs).take 4 = be m 4 := by
    have := List.take_left (l₁ := be m 4) (l₂ := bs)
    rwa [be_length] at this
  have e2 : (fhead m bs).drop 4 = bs := by
    have := List.drop_left (l₁ := be m 4) (l₂ := bs)
    rwa [be_length] at this
  rw [if_pos e1, if_pos rfl, e2]
theorem ftake_other {m k : Nat} (hm : m < 4294967296) (hk : k < 4294967296) (bs : List UInt8) (h : m ≠ k) : ftake k (fput m bs) = ([], 5) := by
  rw [ftake_parts (bs := fput m bs) (h := fhead m bs) (s := be (csum (fhead m bs)) 4) (by rw [fhead_length]; omega) (be_length _ _) rfl]
  have e1 : (fhead m bs).take 4 = be m 4 := by
    have := List.take_left (l₁ := be m 4) (l₂ := bs)
    rwa [be_length] at this
  rw [e1, if_neg (fun e => h ((be_inj m k 4 (by omega) (by omega)).1 e))]
theorem ftake_short {m : Nat} {bs : List UInt8} (h : bs.length < 8) : ftake m bs = ([], 2) := by unfold ftake; rw [if_pos h]
/-- What is taken is put to just these. -/
theorem fput_ftake {m : Nat} {bs x : List UInt8} (h : ftake m bs = (x, 0)) : fput m x = bs := by
  unfold ftake at h
  split at h
  · injection h with _ h; cases h
  · rename_i h8
    split at h
    · rename_i h4
      split at h
      · rename_i hs
        injection h with hx _
        have e1 : fhead m x = bs.take (bs.length - 4) := by
          have := List.take_append_drop 4 (bs.take (bs.length - 4))
          rw [List.take_take, Nat.min_eq_left (by omega), h4, hx] at this
          exact this
        have e2 : fput m x = bs.take (bs.length - 4) ++ bs.drop (bs.length - 4) := by
          rw [fput, e1, ← hs]
        rw [e2, List.take_append_drop]
      · injection h with _ h; cases h
    · injection h with _ h; cases h
theorem fsec_length (tag : UInt8) (bs : List UInt8) : (fsec tag bs).length = 1 + gsize bs.length + bs.length := by
  simp [fsec, gput_length]; omega
theorem fopen_fsec (tag : UInt8) (bs cs : List UInt8) (h : bs.length < 268435456) : fopen tag (fsec tag bs ++ cs) = (bs, cs, 0) := by
  have e : fsec tag bs ++ cs = tag :: (gput bs.length ++ (bs ++ cs)) := by simp [fsec, List.append_assoc]
  rw [e, fopen_cons, gtake_gput bs.length h]
  have hd : (gput bs.length ++ (bs ++ cs)).drop (gsize bs.length) = bs ++ cs := by
    have := List.drop_left (l₁ := gput bs.length) (l₂ := bs ++ cs)
    rwa [gput_length] at this
  rw [if_pos rfl, if_pos rfl]
  show (if (List.drop (gsize bs.length) _).length < bs.length then _ else _) = _
  rw [hd, if_neg (by simp), List.take_left, List.drop_left]
theorem fopen_own (tag : UInt8) (bs : List UInt8) (h : bs.length < 268435456) : fopen tag (fsec tag bs) = (bs, [], 0) := by
  have := fopen_fsec tag bs [] h
  rwa [List.append_nil] at this
theorem fopen_tag {t u : UInt8} (h : t ≠ u) (bs : List UInt8) : fopen u (t :: bs) = ([], [], 3) := by
  rw [fopen_cons, if_neg h]
theorem fopen_cut (tag : UInt8) (bs : List UInt8) (h : bs.length < 268435456) (k : Nat) (hk : k < (fsec tag bs).length) : fopen tag ((fsec tag bs).take k) = ([], [], 2) := by
  rw [fsec_length] at hk
  cases k with
  | zero => rfl
  | succ j =>
    unfold fsec
    rw [List.take_succ_cons]
    rw [fopen_cons, if_pos rfl]
    by_cases hj : j < gsize bs.length
    · have e : (gput bs.length ++ bs).take j = (gput bs.length).take j := List.take_append_of_le_length (by rw [gput_length]; omega)
      rw [e, gtake_short bs.length h j hj]
      rfl
    · have e : (gput bs.length ++ bs).take j = gput bs.length ++ bs.take (j - gsize bs.length) := by
        rw [List.take_append, gput_length, List.take_of_length_le (by rw [gput_length]; omega)]
      rw [e, gtake_gput bs.length h]
      have hd : (gput bs.length ++ bs.take (j - gsize bs.length)).drop (gsize bs.length) = bs.take (j - gsize bs.length) := by
        have := List.drop_left (l₁ := gput bs.length) (l₂ := bs.take (j - gsize bs.length))
        rwa [gput_length] at this
      rw [if_pos rfl]
      show (if (List.drop (gsize bs.length) _).length < bs.length then _ else _) = _
      rw [hd, if_pos (by rw [List.length_take]; omega)]
end Go.Th
