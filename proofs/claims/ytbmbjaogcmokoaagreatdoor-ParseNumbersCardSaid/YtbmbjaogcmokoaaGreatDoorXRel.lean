/- The relation between the executor's values and states and the model's. -/
import Derived.Test.YtbmbjaogcmokoaaGreatDoorXDefs
import Derived.Below
import Derived.WalkKit
namespace Go.Proofs.YtbmbjaogcmokoaaGreatDoorX
open Go Go.RowKit
set_option linter.unusedVariables false

/-- where a block of the executor's lies: block, how far its cells are shifted, how many elements more its row holds, an element's cells -/
structure BI where
  blk : Nat
  sh : Nat
  ext : Nat
  es : Nat

abbrev Ren := Nat → Option BI
def Ren.le (ρ ρ' : Ren) : Prop := ∀ b i, ρ b = some i → ρ' b = some i
theorem Ren.le_refl (ρ : Ren) : ρ.le ρ := fun _ _ h => h
theorem Ren.le_trans {a b c : Ren} (h : a.le b) (k : b.le c) : a.le c := fun x i e => k x i (h x i e)

def bytesL (l n : Nat) : List UInt8 := (List.range l).map fun i => UInt8.ofNat (Nat.shiftRight n (Nat.mul 8 i))
def bytesOf (l n : Nat) : ByteArray := ⟨(bytesL l n).toArray⟩

/-- what a proof fixes: the strings that a run does not look into, and the model's blocks that are only read -/
structure Sy where
  str : Nat → ByteArray
  ro : Nat → Prop
/-- what is kept: blocks of the model's that stay as they are, and the executor's numbers that stand for nothing yet -/
structure Kp where
  blk : Nat → Prop
  no : Nat → Prop
instance : CoeFun Kp fun _ => Nat → Prop := ⟨Kp.blk⟩

section
variable (sy : Sy)

mutual
def VRel (ρ : Ren) : CV → Value → Prop
  | .unk, _ => True
  | .bool b, v => v = .bool b
  | .int k n, v => v = .int k n
  | .float k n, v => v = .float k n
  | .str l n, v => v = .string (bytesOf l n)
  | .sym i b, v => v = .string (sy.str i) ∧ decide ((sy.str i).size > 67108864) = b
  | .slen b, v => ∃ n : Nat, v = .int .i64 n ∧ decide (n > 67108864) = b
  | .smod r, v => ∃ n : Int, v = .int .i64 n ∧ Int.tmod n 40 = r
  | .ptr b o, v => ∃ i, ρ b = some i ∧ v = .pointer (some ⟨i.blk, o + i.sh, none⟩)
  | .nilp, v => v = .pointer none
  | .slice b o l c q, v => ∃ i, ρ b = some i ∧ v = .slice (some ⟨i.blk, o + i.sh, none⟩) l (if q then c + i.ext else c)
  | .nils, v => v = .slice none 0 0
  | .map b, v => ∃ i, ρ b = some i ∧ v = .map (some i.blk)
  | .nilm, v => v = .map none
  | .func f fi ca, v => ∃ fi' ca', v = .func f (List.toArray fi') (List.toArray ca') ∧ VRels ρ fi fi' ∧ VRels ρ ca ca'
  | .nilf, v => v = .nilFunc
  | .iface t x, v => ∃ x', v = .iface t x' ∧ VRel ρ x x'
  | .nili, v => v = .nilIface
  | .agg l, v => ∃ l', v = .agg (List.toArray l') ∧ VRels ρ l l'
  | .tup l, v => ∃ l', v = .tuple (List.toArray l') ∧ VRels ρ l l'
def VRels (ρ : Ren) : List CV → List Value → Prop
  | [], l => l = []
  | x :: r, l => ∃ y s, l = y :: s ∧ VRel ρ x y ∧ VRels ρ r s
end

mutual
theorem VRel.mono {ρ ρ' : Ren} (h : ρ.le ρ') : ∀ (x : CV) (v : Value), VRel sy ρ x v → VRel sy ρ' x v
  | .unk, _, k => by simp [VRel]
  | .bool b, _, k => by simpa [VRel] using k
  | .int _ _, _, k => by simpa [VRel] using k
  | .float _ _, _, k => by simpa [VRel] using k
  | .str _ _, _, k => by simpa [VRel] using k
  | .sym _ _, _, k => by simpa [VRel] using k
  | .slen _, _, k => by simpa [VRel] using k
  | .smod _, _, k => by simpa [VRel] using k
  | .ptr b o, _, k => by simp only [VRel] at *; obtain ⟨i, hi, e⟩ := k; exact ⟨i, h _ _ hi, e⟩
  | .nilp, _, k => by simpa [VRel] using k
  | .slice _ _ _ _ _, _, k => by simp only [VRel] at *; obtain ⟨i, hi, e⟩ := k; exact ⟨i, h _ _ hi, e⟩
  | .nils, _, k => by simpa [VRel] using k
  | .map _, _, k => by simp only [VRel] at *; obtain ⟨i, hi, e⟩ := k; exact ⟨i, h _ _ hi, e⟩
  | .nilm, _, k => by simpa [VRel] using k
  | .func _ fi ca, _, k => by
    simp only [VRel] at *
    obtain ⟨fi', ca', e, h1, h2⟩ := k
    exact ⟨fi', ca', e, VRels.mono h fi fi' h1, VRels.mono h ca ca' h2⟩
  | .nilf, _, k => by simpa [VRel] using k
  | .iface _ x, _, k => by simp only [VRel] at *; obtain ⟨x', e, hx⟩ := k; exact ⟨x', e, VRel.mono h x x' hx⟩
  | .nili, _, k => by simpa [VRel] using k
  | .agg l, _, k => by simp only [VRel] at *; obtain ⟨l', e, hx⟩ := k; exact ⟨l', e, VRels.mono h l l' hx⟩
  | .tup l, _, k => by simp only [VRel] at *; obtain ⟨l', e, hx⟩ := k; exact ⟨l', e, VRels.mono h l l' hx⟩
theorem VRels.mono {ρ ρ' : Ren} (h : ρ.le ρ') : ∀ (l : List CV) (l' : List Value), VRels sy ρ l l' → VRels sy ρ' l l'
  | [], _, k => by simpa [VRels] using k
  | x :: r, _, k => by
    simp only [VRels] at *
    obtain ⟨y, s, e, hx, hr⟩ := k
    exact ⟨y, s, e, VRel.mono h x y hx, VRels.mono h r s hr⟩
end
variable {sy} {ρ : Ren}

theorem VRels.nil : VRels sy ρ [] [] := by simp [VRels]
theorem VRels.cons {x : CV} {y : Value} {r : List CV} {s : List Value} (h : VRel sy ρ x y) (k : VRels sy ρ r s) : VRels sy ρ (x :: r) (y :: s) := by
  simp only [VRels]; exact ⟨y, s, rfl, h, k⟩
theorem VRels.length : ∀ {l : List CV} {l' : List Value}, VRels sy ρ l l' → l'.length = l.length
  | [], _, h => by simp only [VRels] at h; subst h; rfl
  | _ :: _, _, h => by
    simp only [VRels] at h
    obtain ⟨y, s, rfl, _, hr⟩ := h
    simp [VRels.length hr]
theorem VRels.get : ∀ {l : List CV} {l' : List Value} (_ : VRels sy ρ l l') (j : Nat) (v : CV), l[j]? = some v → ∃ v', l'[j]? = some v' ∧ VRel sy ρ v v'
  | [], _, _, _, _, hv => by simp at hv
  | x :: r, _, h, j, v, hv => by
    simp only [VRels] at h
    obtain ⟨y, s, rfl, hx, hr⟩ := h
    cases j with
    | zero => simp at hv; subst hv; exact ⟨y, by simp, hx⟩
    | succ j => simp at hv; obtain ⟨v', h1, h2⟩ := VRels.get hr j v hv; exact ⟨v', by simpa using h1, h2⟩
theorem VRels.of_get : ∀ {l : List CV} {l' : List Value} (_ : l'.length = l.length) (_ : ∀ (j : Nat) (v : CV) (v' : Value), l[j]? = some v → l'[j]? = some v' → VRel sy ρ v v'), VRels sy ρ l l'
  | [], l', hl, _ => by
    cases l' with
    | nil => exact VRels.nil
    | cons => simp at hl
  | x :: r, l', hl, h => by
    cases l' with
    | nil => simp at hl
    | cons y s =>
      exact VRels.cons (h 0 x y rfl rfl) (VRels.of_get (by simpa using hl) fun j v v' h1 h2 => h (j + 1) v v' (by simpa using h1) (by simpa using h2))
theorem VRels.append {l m : List CV} {l' m' : List Value} (h : VRels sy ρ l l') (k : VRels sy ρ m m') : VRels sy ρ (l ++ m) (l' ++ m') := by
  induction l generalizing l' with
  | nil => simp only [VRels] at h; subst h; simpa using k
  | cons x r ih =>
    simp only [VRels] at h
    obtain ⟨y, s, rfl, hx, hr⟩ := h
    exact VRels.cons hx (ih hr)

/-! ## Constants -/
theorem packL_shift : ∀ (l : List UInt8) (i : Nat), i < l.length → UInt8.ofNat (Nat.shiftRight (packL l) (Nat.mul 8 i)) = l[i]!
  | [], i, h => by simp at h
  | b :: l, 0, _ => by
    have : b.toNat < 256 := b.toNat_lt
    apply UInt8.toNat_inj.1
    simp [packL]
  | b :: l, i + 1, h => by
    have hb : b.toNat < 256 := b.toNat_lt
    have h0 := packL_shift l i (by simpa using h)
    have e : Nat.shiftRight (packL (b :: l)) (Nat.mul 8 (i + 1)) = Nat.shiftRight (packL l) (Nat.mul 8 i) := by
      show packL (b :: l) >>> (8 * (i + 1)) = packL l >>> (8 * i)
      rw [show 8 * (i + 1) = 8 + 8 * i by omega, Nat.shiftRight_add]
      congr 1
      rw [Nat.shiftRight_eq_div_pow]
      simp only [packL]
      omega
    rw [e, h0]
    simp
theorem bytesL_pack (l : List UInt8) : bytesL l.length (packL l) = l := by
  apply List.ext_getElem (by simp [bytesL])
  intro i h1 h2
  have h3 : i < l.length := h2
  simp only [bytesL, List.getElem_map, List.getElem_range]
  rw [packL_shift l i h3]
  simp [h3]
theorem bytesOf_pack (s : ByteArray) : bytesOf s.data.toList.length (packL s.data.toList) = s := by
  unfold bytesOf
  rw [bytesL_pack]
theorem bytesL_length (l n : Nat) : (bytesL l n).length = l := by simp [bytesL]
theorem bytesOf_size (l n : Nat) : (bytesOf l n).size = l := by simp [bytesOf, ByteArray.size, bytesL_length]

theorem ofCell_rel (v : Value) : VRel sy ρ (ofCell v) v := by
  unfold ofCell
  split <;> simp only [VRel]
  rw [bytesOf_pack]
theorem ofCells_rel : ∀ (l : List Value), VRels sy ρ (l.map ofCell) l
  | [] => VRels.nil
  | v :: l => VRels.cons (ofCell_rel v) (ofCells_rel l)
theorem ofValue_rel (v : Value) : VRel sy ρ (ofValue v) v := by
  unfold ofValue
  split
  · simp only [VRel]; exact ⟨_, by simp, ofCells_rel _⟩
  · simp only [VRel]; exact ⟨_, by simp, ofCells_rel _⟩
  · exact ofCell_rel _

theorem cellsOf_rel {x : CV} {v : Value} (hx : x ≠ .unk) (h : VRel sy ρ x v) : VRels sy ρ (cellsOf x) v.cells.toList := by
  cases x <;> simp only [VRel] at h <;> simp only [cellsOf]
  case unk => exact absurd rfl hx
  case agg l => obtain ⟨l', rfl, hl⟩ := h; simpa [Value.cells] using hl
  case ptr => obtain ⟨i, hi, rfl⟩ := h; exact VRels.cons (by simp only [VRel]; exact ⟨i, hi, rfl⟩) VRels.nil
  case slice => obtain ⟨i, hi, rfl⟩ := h; exact VRels.cons (by simp only [VRel]; exact ⟨i, hi, rfl⟩) VRels.nil
  case map => obtain ⟨i, hi, rfl⟩ := h; exact VRels.cons (by simp only [VRel]; exact ⟨i, hi, rfl⟩) VRels.nil
  case func => obtain ⟨fi', ca', rfl, h1, h2⟩ := h; exact VRels.cons (by simp only [VRel]; exact ⟨_, _, rfl, h1, h2⟩) VRels.nil
  case iface => obtain ⟨x', rfl, h1⟩ := h; exact VRels.cons (by simp only [VRel]; exact ⟨_, rfl, h1⟩) VRels.nil
  case tup => obtain ⟨x', rfl, h1⟩ := h; exact VRels.cons (by simp only [VRel]; exact ⟨_, rfl, h1⟩) VRels.nil
  case sym => obtain ⟨rfl, h1⟩ := h; exact VRels.cons (by simp only [VRel]; exact ⟨trivial, h1⟩) VRels.nil
  case slen => obtain ⟨n, rfl, h1⟩ := h; exact VRels.cons (by simp only [VRel]; exact ⟨n, rfl, h1⟩) VRels.nil
  case smod => obtain ⟨n, rfl, h1⟩ := h; exact VRels.cons (by simp only [VRel]; exact ⟨n, rfl, h1⟩) VRels.nil
  all_goals subst h; exact VRels.cons (by simp only [VRel]) VRels.nil

def isOne : Value → Bool
  | .agg _ => false
  | .tuple _ => false
  | _ => true
theorem oneCell_rel {x : CV} {v : Value} (hx : oneCell x = true) (h : VRel sy ρ x v) : isOne v = true := by
  cases x <;> simp [oneCell] at hx <;> simp only [VRel] at h
  case ptr => obtain ⟨i, hi, rfl⟩ := h; rfl
  case slice => obtain ⟨i, hi, rfl⟩ := h; rfl
  case map => obtain ⟨i, hi, rfl⟩ := h; rfl
  case func => obtain ⟨fi', ca', rfl, h1, h2⟩ := h; rfl
  case iface => obtain ⟨x', rfl, h1⟩ := h; rfl
  case sym => obtain ⟨rfl, h1⟩ := h; rfl
  case slen => obtain ⟨n, rfl, h1⟩ := h; rfl
  case smod => obtain ⟨n, rfl, h1⟩ := h; rfl
  all_goals subst h; rfl
end
end Go.Proofs.YtbmbjaogcmokoaaGreatDoorX
