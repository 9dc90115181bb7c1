/- Strings as numbers. -/
import Derived.Test.YtbmbjaogcmokoaaGreatDoorXHeap
namespace Go.Proofs.YtbmbjaogcmokoaaGreatDoorX
open Go
set_option linter.unusedVariables false

theorem bytesL_get (l n i : Nat) (h : i < l) : (bytesL l n)[i]? = some (UInt8.ofNat (n >>> (8 * i))) := by
  simp [bytesL, h]
theorem ofNat_mod {x y : Nat} (h : x % 256 = y % 256) : UInt8.ofNat x = UInt8.ofNat y := by
  apply UInt8.toNat_inj.1
  simpa [UInt8.toNat_ofNat'] using h
theorem shift_div (n i : Nat) : n >>> (8 * i) = n / 256 ^ i := by
  rw [Nat.shiftRight_eq_div_pow, Nat.pow_mul]
theorem shiftl_mul (n i : Nat) : n <<< (8 * i) = n * 256 ^ i := by
  rw [Nat.shiftLeft_eq, Nat.pow_mul]
theorem bytesL_ext {l n : Nat} {m : List UInt8} (hl : m.length = l) (h : ∀ i, i < l → m[i]? = some (UInt8.ofNat (n / 256 ^ i))) : bytesL l n = m := by
  apply List.ext_getElem?
  intro i
  by_cases hi : i < l
  · rw [bytesL_get _ _ _ hi, h i hi, shift_div]
  · rw [List.getElem?_eq_none (by rw [bytesL_length]; omega), List.getElem?_eq_none (by omega)]
theorem div_mod_low {x y i l : Nat} (hi : i < l) (h : x % 256 ^ l = y % 256 ^ l) : x / 256 ^ i % 256 = y / 256 ^ i % 256 := by
  have hd : 256 ^ i * 256 ∣ 256 ^ l := by
    rw [← Nat.pow_succ]
    exact Nat.pow_dvd_pow 256 hi
  have hx : x % (256 ^ i * 256) = y % (256 ^ i * 256) := by
    rw [← Nat.mod_mod_of_dvd x hd, h, Nat.mod_mod_of_dvd y hd]
  rw [← Nat.mod_mul_right_div_self, hx, Nat.mod_mul_right_div_self]
theorem low_eq (l n : Nat) : low l n = n % 256 ^ l := rfl
theorem bytesL_low {l n m : Nat} (h : n % 256 ^ l = m % 256 ^ l) : bytesL l n = bytesL l m :=
  bytesL_ext (bytesL_length _ _) fun i hi => by rw [bytesL_get _ _ _ hi, shift_div]; exact congrArg some (ofNat_mod (div_mod_low hi h.symm))
theorem bytesL_append (l n m k : Nat) : bytesL (Nat.add l m) (Nat.add (low l n) (Nat.shiftLeft k (Nat.mul 8 l))) = bytesL l n ++ bytesL m k := by
  apply bytesL_ext (by simp [bytesL_length])
  intro i hi
  have e : Nat.add (low l n) (Nat.shiftLeft k (Nat.mul 8 l)) = n % 256 ^ l + k * 256 ^ l := by
    show low l n + k <<< (8 * l) = _
    rw [shiftl_mul, low_eq]
  rw [e]
  have hi' : i < l + m := hi
  by_cases h : i < l
  · rw [List.getElem?_append_left (by rw [bytesL_length]; exact h), bytesL_get _ _ _ h, shift_div]
    refine congrArg some (ofNat_mod (div_mod_low h ?_))
    rw [Nat.add_mul_mod_self_right, Nat.mod_mod]
  · rw [List.getElem?_append_right (by rw [bytesL_length]; omega), bytesL_length, bytesL_get _ _ _ (by omega), shift_div]
    refine congrArg some (congrArg UInt8.ofNat ?_)
    have hp : 256 ^ i = 256 ^ l * 256 ^ (i - l) := by rw [← Nat.pow_add]; congr 1; omega
    have hpos : 0 < 256 ^ l := Nat.pow_pos (by omega)
    rw [hp, ← Nat.div_div_eq_div_mul, Nat.add_mul_div_right _ _ hpos, Nat.div_eq_of_lt (Nat.mod_lt _ hpos), Nat.zero_add]
theorem bytesL_succ (l n : Nat) : bytesL (l + 1) n = UInt8.ofNat n :: bytesL l (n / 256) := by
  apply bytesL_ext (by simp [bytesL_length])
  intro i hi
  cases i with
  | zero => simp
  | succ i =>
    rw [List.getElem?_cons_succ, bytesL_get _ _ _ (by omega), shift_div, Nat.pow_succ', Nat.div_div_eq_div_mul]
theorem bytesL_inj : ∀ (l n m : Nat), bytesL l n = bytesL l m → n % 256 ^ l = m % 256 ^ l
  | 0, n, m, _ => by omega
  | l + 1, n, m, h => by
    rw [bytesL_succ, bytesL_succ] at h
    simp only [List.cons.injEq] at h
    have h1 : n % 256 = m % 256 := by
      have := congrArg UInt8.toNat h.1
      simpa [UInt8.toNat_ofNat'] using this
    have h2 := bytesL_inj l _ _ h.2
    rw [Nat.pow_succ', Nat.mod_mul, Nat.mod_mul, h1, h2]
theorem bytes_toList (s : ByteArray) : s.toList = s.data.toList := ByteArray.toList_eq s
theorem eqStr_eq (l n m k : Nat) : eqStr l n m k = ((bytesOf l n).toList == (bytesOf m k).toList) := by
  rw [bytes_toList, bytes_toList]
  show (Nat.beq l m && Nat.beq (low l n) (low l k)) = (bytesL l n == bytesL m k)
  apply Bool.eq_iff_iff.2
  simp only [Bool.and_eq_true, beq_iff_eq, Nat.beq_eq]
  constructor
  · rintro ⟨rfl, h⟩
    exact bytesL_low h
  · intro h
    have hl : l = m := by have := congrArg List.length h; simpa [bytesL_length] using this
    subst hl
    exact ⟨rfl, bytesL_inj l n k h⟩
theorem bytesL_slice {l n lo hi : Nat} (h1 : lo ≤ hi) (h2 : hi ≤ l) : bytesL (Nat.sub hi lo) (low (Nat.sub hi lo) (Nat.shiftRight n (Nat.mul 8 lo))) = ((bytesL l n).drop lo).take (hi - lo) := by
  have e : Nat.shiftRight n (Nat.mul 8 lo) = n / 256 ^ lo := shift_div n lo
  rw [e, low_eq]
  show bytesL (hi - lo) (n / 256 ^ lo % 256 ^ (hi - lo)) = _
  rw [bytesL_low (Nat.mod_mod _ _)]
  apply bytesL_ext (by simp [bytesL_length]; omega)
  intro i hi'
  rw [List.getElem?_take_of_lt hi', List.getElem?_drop, bytesL_get _ _ _ (by omega), shift_div, Nat.pow_add, Nat.div_div_eq_div_mul]
theorem bytesOf_extract {l n lo hi : Nat} (h1 : lo ≤ hi) (h2 : hi ≤ l) : (bytesOf l n).extract lo hi = bytesOf (Nat.sub hi lo) (low (Nat.sub hi lo) (Nat.shiftRight n (Nat.mul 8 lo))) := by
  unfold bytesOf
  rw [bytesL_slice h1 h2]
  apply ByteArray.ext
  apply Array.ext'
  rw [ByteArray.data_extract]
  simp
theorem bytesOf_append (l n m k : Nat) : bytesOf l n ++ bytesOf m k = bytesOf (Nat.add l m) (Nat.add (low l n) (Nat.shiftLeft k (Nat.mul 8 l))) := by
  unfold bytesOf
  rw [bytesL_append]
  apply ByteArray.ext
  simp
theorem bytesOf_get {l n k : Nat} (h : k < l) : (bytesOf l n)[k]? = some (UInt8.ofNat (n >>> (8 * k))) := by
  have hs : k < (bytesOf l n).size := by rw [bytesOf_size]; exact h
  rw [getElem?_pos (bytesOf l n) k hs]
  have := bytesL_get l n k h
  simp only [bytesOf, ByteArray.getElem_eq_getElem_data]
  rw [List.getElem?_eq_getElem (by rw [bytesL_length]; exact h)] at this
  simpa using this
theorem byteAt_eq (n k : Nat) : ((UInt8.ofNat (n >>> (8 * k))).toNat : Int) = Int.ofNat (byteAt n k) := by
  simp [byteAt]
  rfl
end Go.Proofs.YtbmbjaogcmokoaaGreatDoorX
