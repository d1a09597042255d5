import Derived.Test.YtdhmbpipjdapfaaGreatShK18
namespace Go.Proofs
open Go Go.Sh
set_option maxRecDepth 20000
/-- The same ring, from another edge on. -/
def turned (l : List Ed) (n : Nat) : List Ed := l.drop n ++ l.take n
theorem turned_length (l : List Ed) (n : Nat) : (turned l n).length = l.length := by simp [turned]; omega
theorem turned_get (l : List Ed) (n i : Nat) (hn : n ≤ l.length) (hi : i < l.length) : (turned l n).getD i default = l.getD ((n + i) % l.length) default := by
  unfold turned
  rw [List.getD_eq_getElem?_getD, List.getD_eq_getElem?_getD]
  congr 1
  by_cases h : i < l.length - n
  · rw [List.getElem?_append_left (by simp; omega), List.getElem?_drop, Nat.mod_eq_of_lt (by omega)]
  · rw [List.getElem?_append_right (by simp; omega), List.getElem?_take_of_lt (by simp; omega), List.length_drop]
    congr 1
    rw [Nat.mod_eq_sub_mod (by omega), Nat.mod_eq_of_lt (by omega)]
    omega
theorem roundOk_turned (h : List Ev) (level : Int) (l : List Ed) (n i : Nat) (hn : n ≤ l.length) (hi : i < l.length) : roundOk h level (turned l n) i = roundOk h level l ((n + i) % l.length) := by
  have hm : ∀ x, x % l.length < l.length := fun x => Nat.mod_lt _ (by omega)
  have hx : nxt (turned l n) i = nxt l ((n + i) % l.length) := by
    unfold nxt
    rw [turned_length, turned_get l n _ hn (hm _)]
    congr 1
    rw [Nat.add_mod_mod, Nat.mod_add_mod]
    congr 1
  unfold roundOk
  rw [hx, turned_get l n i hn hi]
theorem roundE_turned (h : List Ev) (level : Int) (l : List Ed) (n : Nat) (hn : n ≤ l.length) : roundE h level (turned l n) = roundE h level l := by
  unfold roundE
  rw [turned_length]
  congr 1
  rw [Bool.eq_iff_iff, List.all_eq_true, List.all_eq_true]
  constructor
  · intro hk j hj
    have hj := List.mem_range.1 hj
    have hm : (j + (l.length - n)) % l.length < l.length := Nat.mod_lt _ (by omega)
    have := hk ((j + (l.length - n)) % l.length) (List.mem_range.2 hm)
    rw [roundOk_turned h level l n _ hn hm, Nat.add_mod_mod, show n + (j + (l.length - n)) = j + l.length by omega, Nat.add_mod_right, Nat.mod_eq_of_lt hj] at this
    exact this
  · intro hk i hi
    have hi := List.mem_range.1 hi
    rw [roundOk_turned h level l n i hn hi]
    exact hk _ (List.mem_range.2 (Nat.mod_lt _ (by omega)))
end Go.Proofs
