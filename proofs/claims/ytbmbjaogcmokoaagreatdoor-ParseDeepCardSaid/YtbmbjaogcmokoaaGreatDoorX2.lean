/- The relation between the executor's values and states and the model's. The executor's heap beside the model's: what is read, stored and made. The executor's state beside the model's world. Operations: what the executor says of one, the model does (1: moves, memory). Operations: what the executor says of one, the model does (2). Literals: parts laid over a zero value. Strings as numbers. Operations: what the executor says of one, the model does (3: places, integers, strings). -/
import Derived.Test.YtbmbjaogcmokoaaGreatDoorX1
import Derived.Below
import Derived.WalkKit
import Derived.Laws.Tables
namespace Go.Proofs.YtbmbjaogcmokoaaGreatDoorX
open Go Go.RowKit
set_option linter.unusedVariables false

/-- where a block of the executor's lies: block, how far its cells are shifted, how many elements more its row holds, an element's cells -/
structure BI where
  blk : Nat
  sh : Nat
  ext : Nat
  es : Nat

abbrev Ren := Nat → Option BI
def Ren.le (ρ ρ' : Ren) : Prop := ∀ b i, ρ b = some i → ρ' b = some i
theorem Ren.le_refl (ρ : Ren) : ρ.le ρ := fun _ _ h => h
theorem Ren.le_trans {a b c : Ren} (h : a.le b) (k : b.le c) : a.le c := fun x i e => k x i (h x i e)

def bytesL (l n : Nat) : List UInt8 := (List.range l).map fun i => UInt8.ofNat (Nat.shiftRight n (Nat.mul 8 i))
def bytesOf (l n : Nat) : ByteArray := ⟨(bytesL l n).toArray⟩

/-- what a proof fixes: the strings that a run does not look into, and the model's blocks that are only read -/
structure Sy where
  str : Nat → ByteArray
  ro : Nat → Prop
/-- what is kept: blocks of the model's that stay as they are, and the executor's numbers that stand for nothing yet -/
structure Kp where
  blk : Nat → Prop
  no : Nat → Prop
instance : CoeFun Kp fun _ => Nat → Prop := ⟨Kp.blk⟩

section
variable (sy : Sy)

mutual
def VRel (ρ : Ren) : CV → Value → Prop
  | .unk, _ => True
  | .bool b, v => v = .bool b
  | .int k n, v => v = .int k n
  | .float k n, v => v = .float k n
  | .str l n, v => v = .string (bytesOf l n)
  | .sym i b, v => v = .string (sy.str i) ∧ decide ((sy.str i).size > 67108864) = b
  | .slen b, v => ∃ n : Nat, v = .int .i64 n ∧ decide (n > 67108864) = b
  | .smod r, v => ∃ n : Int, v = .int .i64 n ∧ Int.tmod n 40 = r
  | .ptr b o, v => ∃ i, ρ b = some i ∧ v = .pointer (some ⟨i.blk, o + i.sh, none⟩)
  | .nilp, v => v = .pointer none
  | .slice b o l c q, v => ∃ i, ρ b = some i ∧ v = .slice (some ⟨i.blk, o + i.sh, none⟩) l (if q then c + i.ext else c)
  | .nils, v => v = .slice none 0 0
  | .map b, v => ∃ i, ρ b = some i ∧ v = .map (some i.blk)
  | .nilm, v => v = .map none
  | .func f fi ca, v => ∃ fi' ca', v = .func f (List.toArray fi') (List.toArray ca') ∧ VRels ρ fi fi' ∧ VRels ρ ca ca'
  | .nilf, v => v = .nilFunc
  | .iface t x, v => ∃ x', v = .iface t x' ∧ VRel ρ x x'
  | .nili, v => v = .nilIface
  | .agg l, v => ∃ l', v = .agg (List.toArray l') ∧ VRels ρ l l'
  | .tup l, v => ∃ l', v = .tuple (List.toArray l') ∧ VRels ρ l l'
def VRels (ρ : Ren) : List CV → List Value → Prop
  | [], l => l = []
  | x :: r, l => ∃ y s, l = y :: s ∧ VRel ρ x y ∧ VRels ρ r s
end

mutual
theorem VRel.mono {ρ ρ' : Ren} (h : ρ.le ρ') : ∀ (x : CV) (v : Value), VRel sy ρ x v → VRel sy ρ' x v
  | .unk, _, k => by simp [VRel]
  | .bool b, _, k => by simpa [VRel] using k
  | .int _ _, _, k => by simpa [VRel] using k
  | .float _ _, _, k => by simpa [VRel] using k
  | .str _ _, _, k => by simpa [VRel] using k
  | .sym _ _, _, k => by simpa [VRel] using k
  | .slen _, _, k => by simpa [VRel] using k
  | .smod _, _, k => by simpa [VRel] using k
  | .ptr b o, _, k => by simp only [VRel] at *; obtain ⟨i, hi, e⟩ := k; exact ⟨i, h _ _ hi, e⟩
  | .nilp, _, k => by simpa [VRel] using k
  | .slice _ _ _ _ _, _, k => by simp only [VRel] at *; obtain ⟨i, hi, e⟩ := k; exact ⟨i, h _ _ hi, e⟩
  | .nils, _, k => by simpa [VRel] using k
  | .map _, _, k => by simp only [VRel] at *; obtain ⟨i, hi, e⟩ := k; exact ⟨i, h _ _ hi, e⟩
  | .nilm, _, k => by simpa [VRel] using k
  | .func _ fi ca, _, k => by
    simp only [VRel] at *
    obtain ⟨fi', ca', e, h1, h2⟩ := k
    exact ⟨fi', ca', e, VRels.mono h fi fi' h1, VRels.mono h ca ca' h2⟩
  | .nilf, _, k => by simpa [VRel] using k
  | .iface _ x, _, k => by simp only [VRel] at *; obtain ⟨x', e, hx⟩ := k; exact ⟨x', e, VRel.mono h x x' hx⟩
  | .nili, _, k => by simpa [VRel] using k
  | .agg l, _, k => by simp only [VRel] at *; obtain ⟨l', e, hx⟩ := k; exact ⟨l', e, VRels.mono h l l' hx⟩
  | .tup l, _, k => by simp only [VRel] at *; obtain ⟨l', e, hx⟩ := k; exact ⟨l', e, VRels.mono h l l' hx⟩
theorem VRels.mono {ρ ρ' : Ren} (h : ρ.le ρ') : ∀ (l : List CV) (l' : List Value), VRels sy ρ l l' → VRels sy ρ' l l'
  | [], _, k => by simpa [VRels] using k
  | x :: r, _, k => by
    simp only [VRels] at *
    obtain ⟨y, s, e, hx, hr⟩ := k
    exact ⟨y, s, e, VRel.mono h x y hx, VRels.mono h r s hr⟩
end
variable {sy} {ρ : Ren}

theorem VRels.nil : VRels sy ρ [] [] := by simp [VRels]
theorem VRels.cons {x : CV} {y : Value} {r : List CV} {s : List Value} (h : VRel sy ρ x y) (k : VRels sy ρ r s) : VRels sy ρ (x :: r) (y :: s) := by
  simp only [VRels]; exact ⟨y, s, rfl, h, k⟩
theorem VRels.length : ∀ {l : List CV} {l' : List Value}, VRels sy ρ l l' → l'.length = l.length
  | [], _, h => by simp only [VRels] at h; subst h; rfl
  | _ :: _, _, h => by
    simp only [VRels] at h
    obtain ⟨y, s, rfl, _, hr⟩ := h
    simp [VRels.length hr]
theorem VRels.get : ∀ {l : List CV} {l' : List Value} (_ : VRels sy ρ l l') (j : Nat) (v : CV), l[j]? = some v → ∃ v', l'[j]? = some v' ∧ VRel sy ρ v v'
  | [], _, _, _, _, hv => by simp at hv
  | x :: r, _, h, j, v, hv => by
    simp only [VRels] at h
    obtain ⟨y, s, rfl, hx, hr⟩ := h
    cases j with
    | zero => simp at hv; subst hv; exact ⟨y, by simp, hx⟩
    | succ j => simp at hv; obtain ⟨v', h1, h2⟩ := VRels.get hr j v hv; exact ⟨v', by simpa using h1, h2⟩
theorem VRels.of_get : ∀ {l : List CV} {l' : List Value} (_ : l'.length = l.length) (_ : ∀ (j : Nat) (v : CV) (v' : Value), l[j]? = some v → l'[j]? = some v' → VRel sy ρ v v'), VRels sy ρ l l'
  | [], l', hl, _ => by
    cases l' with
    | nil => exact VRels.nil
    | cons => simp at hl
  | x :: r, l', hl, h => by
    cases l' with
    | nil => simp at hl
    | cons y s =>
      exact VRels.cons (h 0 x y rfl rfl) (VRels.of_get (by simpa using hl) fun j v v' h1 h2 => h (j + 1) v v' (by simpa using h1) (by simpa using h2))
theorem VRels.append {l m : List CV} {l' m' : List Value} (h : VRels sy ρ l l') (k : VRels sy ρ m m') : VRels sy ρ (l ++ m) (l' ++ m') := by
  induction l generalizing l' with
  | nil => simp only [VRels] at h; subst h; simpa using k
  | cons x r ih =>
    simp only [VRels] at h
    obtain ⟨y, s, rfl, hx, hr⟩ := h
    exact VRels.cons hx (ih hr)

/-! ## Constants -/
theorem packL_shift : ∀ (l : List UInt8) (i : Nat), i < l.length → UInt8.ofNat (Nat.shiftRight (packL l) (Nat.mul 8 i)) = l[i]!
  | [], i, h => by simp at h
  | b :: l, 0, _ => by
    have : b.toNat < 256 := b.toNat_lt
    apply UInt8.toNat_inj.1
    simp [packL]
  | b :: l, i + 1, h => by
    have hb : b.toNat < 256 := b.toNat_lt
    have h0 := packL_shift l i (by simpa using h)
    have e : Nat.shiftRight (packL (b :: l)) (Nat.mul 8 (i + 1)) = Nat.shiftRight (packL l) (Nat.mul 8 i) := by
      show packL (b :: l) >>> (8 * (i + 1)) = packL l >>> (8 * i)
      rw [show 8 * (i + 1) = 8 + 8 * i by omega, Nat.shiftRight_add]
      congr 1
      rw [Nat.shiftRight_eq_div_pow]
      simp only [packL]
      omega
    rw [e, h0]
    simp
theorem bytesL_pack (l : List UInt8) : bytesL l.length (packL l) = l := by
  apply List.ext_getElem (by simp [bytesL])
  intro i h1 h2
  have h3 : i < l.length := h2
  simp only [bytesL, List.getElem_map, List.getElem_range]
  rw [packL_shift l i h3]
  simp [h3]
theorem bytesOf_pack (s : ByteArray) : bytesOf s.data.toList.length (packL s.data.toList) = s := by
  unfold bytesOf
  rw [bytesL_pack]
theorem bytesL_length (l n : Nat) : (bytesL l n).length = l := by simp [bytesL]
theorem bytesOf_size (l n : Nat) : (bytesOf l n).size = l := by simp [bytesOf, ByteArray.size, bytesL_length]

theorem ofCell_rel (v : Value) : VRel sy ρ (ofCell v) v := by
  unfold ofCell
  split <;> simp only [VRel]
  rw [bytesOf_pack]
theorem ofCells_rel : ∀ (l : List Value), VRels sy ρ (l.map ofCell) l
  | [] => VRels.nil
  | v :: l => VRels.cons (ofCell_rel v) (ofCells_rel l)
theorem ofValue_rel (v : Value) : VRel sy ρ (ofValue v) v := by
  unfold ofValue
  split
  · simp only [VRel]; exact ⟨_, by simp, ofCells_rel _⟩
  · simp only [VRel]; exact ⟨_, by simp, ofCells_rel _⟩
  · exact ofCell_rel _

theorem cellsOf_rel {x : CV} {v : Value} (hx : x ≠ .unk) (h : VRel sy ρ x v) : VRels sy ρ (cellsOf x) v.cells.toList := by
  cases x <;> simp only [VRel] at h <;> simp only [cellsOf]
  case unk => exact absurd rfl hx
  case agg l => obtain ⟨l', rfl, hl⟩ := h; simpa [Value.cells] using hl
  case ptr => obtain ⟨i, hi, rfl⟩ := h; exact VRels.cons (by simp only [VRel]; exact ⟨i, hi, rfl⟩) VRels.nil
  case slice => obtain ⟨i, hi, rfl⟩ := h; exact VRels.cons (by simp only [VRel]; exact ⟨i, hi, rfl⟩) VRels.nil
  case map => obtain ⟨i, hi, rfl⟩ := h; exact VRels.cons (by simp only [VRel]; exact ⟨i, hi, rfl⟩) VRels.nil
  case func => obtain ⟨fi', ca', rfl, h1, h2⟩ := h; exact VRels.cons (by simp only [VRel]; exact ⟨_, _, rfl, h1, h2⟩) VRels.nil
  case iface => obtain ⟨x', rfl, h1⟩ := h; exact VRels.cons (by simp only [VRel]; exact ⟨_, rfl, h1⟩) VRels.nil
  case tup => obtain ⟨x', rfl, h1⟩ := h; exact VRels.cons (by simp only [VRel]; exact ⟨_, rfl, h1⟩) VRels.nil
  case sym => obtain ⟨rfl, h1⟩ := h; exact VRels.cons (by simp only [VRel]; exact ⟨trivial, h1⟩) VRels.nil
  case slen => obtain ⟨n, rfl, h1⟩ := h; exact VRels.cons (by simp only [VRel]; exact ⟨n, rfl, h1⟩) VRels.nil
  case smod => obtain ⟨n, rfl, h1⟩ := h; exact VRels.cons (by simp only [VRel]; exact ⟨n, rfl, h1⟩) VRels.nil
  all_goals subst h; exact VRels.cons (by simp only [VRel]) VRels.nil

def isOne : Value → Bool
  | .agg _ => false
  | .tuple _ => false
  | _ => true
theorem oneCell_rel {x : CV} {v : Value} (hx : oneCell x = true) (h : VRel sy ρ x v) : isOne v = true := by
  cases x <;> simp [oneCell] at hx <;> simp only [VRel] at h
  case ptr => obtain ⟨i, hi, rfl⟩ := h; rfl
  case slice => obtain ⟨i, hi, rfl⟩ := h; rfl
  case map => obtain ⟨i, hi, rfl⟩ := h; rfl
  case func => obtain ⟨fi', ca', rfl, h1, h2⟩ := h; rfl
  case iface => obtain ⟨x', rfl, h1⟩ := h; rfl
  case sym => obtain ⟨rfl, h1⟩ := h; rfl
  case slen => obtain ⟨n, rfl, h1⟩ := h; rfl
  case smod => obtain ⟨n, rfl, h1⟩ := h; rfl
  all_goals subst h; rfl
end
end Go.Proofs.YtbmbjaogcmokoaaGreatDoorX

namespace Go.Proofs.YtbmbjaogcmokoaaGreatDoorX
open Go Go.RowKit
set_option linter.unusedVariables false

/-! ## Trees -/
section
variable {α : Type}
theorem T.get_node_zero (v : Option α) (a b c d : T α) : (T.node v a b c d).get 0 = v := rfl
theorem T.get_node_succ (v : Option α) (a b c d : T α) (m : Nat) : (T.node v a b c d).get (m + 1) = T.pick a.get b.get c.get d.get (m % 4) (m / 4) := rfl
theorem T.get_nil (n : Nat) : (T.nil : T α).get n = none := rfl
theorem T.pick0 {β : Type} (a b c d : β) : T.pick a b c d 0 = a := rfl
theorem T.pick1 {β : Type} (a b c d : β) : T.pick a b c d 1 = b := rfl
theorem T.pick2 {β : Type} (a b c d : β) : T.pick a b c d 2 = c := rfl
theorem T.pick3 {β : Type} (a b c d : β) : T.pick a b c d 3 = d := rfl
theorem mod4 (m : Nat) : m % 4 = 0 ∨ m % 4 = 1 ∨ m % 4 = 2 ∨ m % 4 = 3 := by omega

theorem T.single_zero (x : α) (f : Nat) : T.single x (f + 1) 0 = .node (some x) .nil .nil .nil .nil := rfl
theorem T.single_succ (x : α) (f m : Nat) : T.single x (f + 1) (m + 1) =
    T.pick (fun s => .node none s .nil .nil .nil) (fun s => .node none .nil s .nil .nil) (fun s => .node none .nil .nil s .nil) (fun s => .node none .nil .nil .nil s) (m % 4) (T.single x f (m / 4)) := rfl
theorem T.set_nil (x : α) (n : Nat) : T.set .nil x n = T.single x (n + 1) n := rfl
theorem T.set_node_zero (x : α) (v : Option α) (a b c d : T α) : T.set (.node v a b c d) x 0 = .node (some x) a b c d := rfl
theorem T.set_node_succ (x : α) (v : Option α) (a b c d : T α) (m : Nat) : T.set (.node v a b c d) x (m + 1) =
    T.pick (fun q => .node v (a.set x q) b c d) (fun q => .node v a (b.set x q) c d) (fun q => .node v a b (c.set x q) d) (fun q => .node v a b c (d.set x q)) (m % 4) (m / 4) := rfl

theorem T.get_single (x : α) : ∀ (f n : Nat), n < f → ∀ k, (T.single x f n).get k = if k = n then some x else none := by
  intro f
  induction f with
  | zero => intro n h; omega
  | succ f ih =>
    intro n h k
    cases n with
    | zero =>
      rw [T.single_zero]
      cases k with
      | zero => rfl
      | succ k =>
        rw [T.get_node_succ, if_neg (by omega)]
        rcases mod4 k with e | e | e | e <;> rw [e] <;> rfl
    | succ m =>
      rw [T.single_succ]
      have hm := ih (m / 4) (by omega)
      cases k with
      | zero =>
        rw [if_neg (by omega)]
        rcases mod4 m with e | e | e | e <;> rw [e] <;> rfl
      | succ j =>
        have key : (j + 1 = m + 1) ↔ (j % 4 = m % 4 ∧ j / 4 = m / 4) := by omega
        simp only [key]
        rcases mod4 m with e | e | e | e <;> rcases mod4 j with e' | e' | e' | e' <;> rw [e] <;>
          simp only [T.pick0, T.pick1, T.pick2, T.pick3, T.get_node_succ, e', T.get_nil, hm] <;> simp

theorem T.get_set (x : α) (t : T α) : ∀ (n k : Nat), (T.set t x n).get k = if k = n then some x else t.get k := by
  induction t with
  | nil => intro n k; rw [T.set_nil, T.get_single x _ _ (by omega)]; rfl
  | node v a b c d ia ib ic id =>
    intro n k
    cases n with
    | zero =>
      rw [T.set_node_zero]
      cases k with
      | zero => rfl
      | succ k => rw [T.get_node_succ, T.get_node_succ]; simp
    | succ m =>
      rw [T.set_node_succ]
      cases k with
      | zero =>
        rw [if_neg (by omega)]
        rcases mod4 m with e | e | e | e <;> rw [e] <;> rfl
      | succ j =>
        have key : (j + 1 = m + 1) ↔ (j % 4 = m % 4 ∧ j / 4 = m / 4) := by omega
        simp only [key]
        rcases mod4 m with e | e | e | e <;> rcases mod4 j with e' | e' | e' | e' <;> rw [e] <;>
          simp only [T.pick0, T.pick1, T.pick2, T.pick3, T.get_node_succ, e', ia, ib, ic, id] <;> simp
end

theorem len_eq (l : List CV) : len l = l.length := by
  induction l with
  | nil => rfl
  | cons x l ih => show Nat.succ (len l) = _; rw [ih]; rfl
theorem forceN_eq {β : Type} (k : Nat → β) (n : Nat) : forceN k n = k n := by cases n <;> rfl
theorem forceI_eq {β : Type} (k : Int → β) (n : Int) : forceI k n = k n := by
  cases n with
  | ofNat m => cases m <;> rfl
  | negSucc m => cases m <;> rfl

theorem rowOf_get : ∀ (l : List CV) (i : Nat) (t : T CV) (j : Nat), (rowOf l i t).get j = if i ≤ j ∧ j < i + l.length then l[j - i]? else t.get j
  | [], i, t, j => by simp [rowOf]; intro h1 h2; omega
  | c :: l, i, t, j => by
    show (rowOf l (i + 1) (T.set t c i)).get j = _
    rw [rowOf_get l, T.get_set]
    by_cases h : j = i
    · subst h
      rw [if_neg (by omega), if_pos rfl, if_pos (by simp)]
      simp
    · by_cases h2 : i + 1 ≤ j ∧ j < i + 1 + l.length
      · have h3 : i ≤ j ∧ j < i + (c :: l).length := by simp; omega
        rw [if_pos h2, if_pos h3]
        have : j - i = (j - (i + 1)) + 1 := by omega
        rw [this]; rfl
      · have h3 : ¬ (i ≤ j ∧ j < i + (c :: l).length) := by simp; omega
        rw [if_neg h2, if_neg h3, if_neg h]

theorem storeL_get : ∀ (l : List CV) (t : T CV) (o j : Nat), (storeL l t o).get j = if o ≤ j ∧ j < o + l.length then l[j - o]? else t.get j
  | [], t, o, j => by simp [storeL]; intro h1 h2; omega
  | c :: l, t, o, j => by
    show (storeL l (T.set t c o) (o + 1)).get j = _
    rw [storeL_get l, T.get_set]
    by_cases h : j = o
    · subst h
      rw [if_neg (by omega), if_pos rfl, if_pos (by simp)]
      simp
    · by_cases h2 : o + 1 ≤ j ∧ j < o + 1 + l.length
      · have h3 : o ≤ j ∧ j < o + (c :: l).length := by simp; omega
        rw [if_pos h2, if_pos h3]
        have : j - o = (j - (o + 1)) + 1 := by omega
        rw [this]; rfl
      · have h3 : ¬ (o ≤ j ∧ j < o + (c :: l).length) := by simp; omega
        rw [if_neg h2, if_neg h3, if_neg h]

theorem loadN_get : ∀ (t : T CV) (n o : Nat) (l : List CV), loadN t n o = some l → l.length = n ∧ ∀ j, j < n → t.get (o + j) = l[j]?
  | t, 0, o, l, h => by
    have h' : some [] = some l := h
    have : l = [] := (Option.some.inj h').symm
    subst this; simp
  | t, n + 1, o, l, h => by
    have h' : (Option.rec (motive := fun _ => Option (List CV)) none (fun v => Option.rec (motive := fun _ => Option (List CV)) none (fun l => some (v :: l)) (loadN t n (o + 1))) (t.get o) : Option (List CV)) = some l := h
    cases hg : t.get o with
    | none => rw [hg] at h'; simp at h'
    | some v =>
      rw [hg] at h'
      simp only at h'
      cases hr : loadN t n (o + 1) with
      | none => rw [hr] at h'; simp at h'
      | some r =>
        rw [hr] at h'
        simp only [Option.some.injEq] at h'
        subst h'
        obtain ⟨h1, h2⟩ := loadN_get t n (o + 1) r hr
        refine ⟨by simp [h1], fun j hj => ?_⟩
        cases j with
        | zero => simpa using hg
        | succ j => have := h2 j (by omega); rw [← Nat.add_assoc, Nat.add_right_comm] ; simpa using this

/-! ## The model's memory: rows of cells -/
section
variable {P : Program}
theorem addr_add (b o n : Nat) : (⟨b, o, none⟩ : Addr).add n = ⟨b, o + n, none⟩ := by
  unfold Addr.add; split
  · subst n; rfl
  · rfl
theorem cell_row {w : World} {b o : Nat} {c : Array Value} {e : TypeId} {fz : Nat × Nat} (h : w.heap[b]? = some (.cells c e fz)) : w.cell? ⟨b, o, none⟩ = c[o]? := by
  simp [World.cell?, h]
theorem frozen_row {w : World} {b o : Nat} {c : Array Value} {e : TypeId} {fz : Nat × Nat} (h : w.heap[b]? = some (.cells c e fz)) (hf : ¬ (fz.1 ≤ o ∧ o < fz.2)) : w.frozen? ⟨b, o, none⟩ = false := by
  obtain ⟨lo, hi⟩ := fz
  simp only [World.frozen?, h]
  simp only at hf
  rcases Nat.lt_or_ge o lo with h1 | h1
  · have : ¬ lo ≤ o := by omega
    simp [this]
  · have : ¬ o < hi := by omega
    simp [this]

/-- w with another row of cells in block b -/
def setRow (w : World) (b : Nat) (c : Array Value) (e : TypeId) (fz : Nat × Nat) : World := { w with heap := w.heap.setIfInBounds b (.cells c e fz) }
theorem setCell_row {w : World} {b o : Nat} {c : Array Value} {e : TypeId} {fz : Nat × Nat} (h : w.heap[b]? = some (.cells c e fz)) (v : Value) :
    w.setCell ⟨b, o, none⟩ v = setRow w b (c.setIfInBounds o v) e fz := by
  obtain ⟨hb, hv⟩ := Array.getElem?_eq_some_iff.1 h
  unfold World.setCell setRow
  congr 1
  apply Array.ext_getElem?
  intro j
  simp only [Array.getElem?_modify, Array.getElem?_setIfInBounds]
  by_cases hj : b = j
  · subst hj
    simp [hb, hv]
  · simp [hj]
theorem setRow_heap_same {w : World} {b : Nat} (hb : b < w.heap.size) (c : Array Value) (e : TypeId) (fz : Nat × Nat) : (setRow w b c e fz).heap[b]? = some (.cells c e fz) := by
  simp [setRow, hb]
theorem setRow_heap_ne {w : World} {b j : Nat} (h : j ≠ b) (c : Array Value) (e : TypeId) (fz : Nat × Nat) : (setRow w b c e fz).heap[j]? = w.heap[j]? := by
  simp [setRow, Ne.symm h]
theorem setRow_setRow (w : World) (b : Nat) (c c' : Array Value) (e : TypeId) (fz : Nat × Nat) : setRow (setRow w b c e fz) b c' e fz = setRow w b c' e fz := by
  simp [setRow]
theorem setRow_self {w : World} {b : Nat} {c : Array Value} {e : TypeId} {fz : Nat × Nat} (h : w.heap[b]? = some (.cells c e fz)) : setRow w b c e fz = w := by
  obtain ⟨hb, hv⟩ := Array.getElem?_eq_some_iff.1 h
  unfold setRow
  congr 1
  apply Array.ext_getElem?
  intro j
  rw [Array.getElem?_setIfInBounds]
  by_cases hj : b = j
  · subst hj; simp [hb, hv]
  · simp [hj]
theorem setRow_size (w : World) (b : Nat) (c : Array Value) (e : TypeId) (fz : Nat × Nat) : (setRow w b c e fz).heap.size = w.heap.size := by simp [setRow]

theorem run_load_row {w : World} {b o : Nat} {c : Array Value} {e : TypeId} {fz : Nat × Nat} {v : Value} (h : w.heap[b]? = some (.cells c e fz)) (hv : c[o]? = some v) :
    (load ⟨b, o, none⟩).run P w = .ok v w := by
  simp [load, Sem.run, cell_row h, hv]

theorem run_loadCellsFrom {w : World} {b : Nat} {c : Array Value} {e : TypeId} {fz : Nat × Nat} (h : w.heap[b]? = some (.cells c e fz)) :
    ∀ (n o i : Nat) (acc : Array Value) (l : List Value), l.length = n → (∀ j, j < n → c[o + i + j]? = l[j]?) →
      (loadCellsFrom ⟨b, o, none⟩ i n acc).run P w = .ok (acc ++ l.toArray) w
  | 0, o, i, acc, l, hl, _ => by
    have : l = [] := List.length_eq_zero_iff.1 hl
    subst this
    simp [loadCellsFrom]
  | n + 1, o, i, acc, l, hl, hc => by
    cases l with
    | nil => simp at hl
    | cons x l =>
      have h0 := hc 0 (by omega)
      simp only [Nat.add_zero, List.getElem?_cons_zero] at h0
      have ih := run_loadCellsFrom h n o (i + 1) (acc.push x) l (by simpa using hl) (fun j hj => by
        have := hc (j + 1) (by omega)
        rw [show o + (i + 1) + j = o + i + (j + 1) by omega, this]; simp)
      simp only [loadCellsFrom, addr_add, Sem.run_bind, run_load_row h h0, Result.andThen]
      rw [ih]
      simp
theorem run_loadCells {w : World} {b o : Nat} {c : Array Value} {e : TypeId} {fz : Nat × Nat} (h : w.heap[b]? = some (.cells c e fz)) (l : List Value)
    (hc : ∀ j, j < l.length → c[o + j]? = l[j]?) : (loadCells ⟨b, o, none⟩ l.length).run P w = .ok l.toArray w := by
  have := run_loadCellsFrom (P := P) h l.length o 0 #[] l rfl (by simpa using hc)
  simpa [loadCells] using this

theorem run_storeCells : ∀ (vs : List Value) (w : World) (b o i : Nat) (c : Array Value) (e : TypeId) (fz : Nat × Nat), w.heap[b]? = some (.cells c e fz) →
    o + i + vs.length ≤ c.size → (∀ j, j < vs.length → ¬ (fz.1 ≤ o + i + j ∧ o + i + j < fz.2)) → (∀ v, v ∈ vs → isOne v = true) →
    ∃ c', c'.size = c.size ∧ (storeCells ⟨b, o, none⟩ vs i).run P w = .ok () (setRow w b c' e fz) ∧
      ∀ j, c'[j]? = if o + i ≤ j ∧ j < o + i + vs.length then vs[j - (o + i)]? else c[j]?
  | [], w, b, o, i, c, e, fz, h, _, _, _ => ⟨c, rfl, by simp [storeCells, setRow_self h], fun j => by rw [if_neg (by simp)]⟩
  | v :: vs, w, b, o, i, c, e, fz, h, hs, hf, h1 => by
    have hb : b < w.heap.size := (Array.getElem?_eq_some_iff.1 h).1
    have hlt : o + i < c.size := by simp at hs; omega
    have hfz := hf 0 (by simp)
    rw [Nat.add_zero] at hfz
    obtain ⟨c', hsz, hrun, hget⟩ := run_storeCells vs (setRow w b (c.setIfInBounds (o + i) v) e fz) b o (i + 1) (c.setIfInBounds (o + i) v) e fz (setRow_heap_same hb _ _ _)
      (by simp at hs ⊢; omega) (fun j hj => by
        have := hf (j + 1) (by simp; omega)
        rw [show o + (i + 1) + j = o + i + (j + 1) by omega]; exact this) (fun v hv => h1 v (by simp [hv]))
    refine ⟨c', by simpa using hsz, ?_, fun j => ?_⟩
    · have hst : (store ⟨b, o + i, none⟩ v).run P w = .ok () (setRow w b (c.setIfInBounds (o + i) v) e fz) := by
        have hone := h1 v (by simp)
        have hcell : w.cell? ⟨b, o + i, none⟩ = some c[o + i] := by rw [cell_row h]; simp [hlt]
        have hfr := frozen_row h hfz
        cases v <;> simp [isOne] at hone <;> simp [store, Sem.run, hcell, hfr, setCell_row h]
      simp only [storeCells, addr_add, Sem.run_bind, hst, Result.andThen, hrun, setRow_setRow]
    · rw [hget j]
      by_cases hj : j = o + i
      · subst hj
        rw [if_neg (by omega), if_pos (by simp)]
        simp [hlt]
      · by_cases h2 : o + (i + 1) ≤ j ∧ j < o + (i + 1) + vs.length
        · rw [if_pos h2, if_pos (by simp; omega)]
          rw [show j - (o + i) = (j - (o + (i + 1))) + 1 by omega]
          simp
        · rw [if_neg h2, if_neg (by simp; omega)]
          rw [Array.getElem?_setIfInBounds, if_neg (Ne.symm hj)]
end
end Go.Proofs.YtbmbjaogcmokoaaGreatDoorX

namespace Go.Proofs.YtbmbjaogcmokoaaGreatDoorX
open Go Go.RowKit
set_option linter.unusedVariables false

section
variable (sy : Sy) (G : Nat) (B : Kp) (w0 : World)

/-- what is kept: the blocks of B, and all but the heap -/
structure Kept (B : Kp) (w w' : World) : Prop where
  os : w'.os = w.os
  tape : w'.tape = w.tape
  output : w'.output = w.output
  size : w.heap.size ≤ w'.heap.size
  block : ∀ k, B k → w'.heap[k]? = w.heap[k]?
theorem Kept.refl (B : Kp) (w : World) : Kept B w w := ⟨rfl, rfl, rfl, Nat.le_refl _, fun _ _ => rfl⟩
theorem Kept.trans {B : Kp} {w w1 w2 : World} (h : Kept B w w1) (k : Kept B w1 w2) : Kept B w w2 :=
  ⟨k.os.trans h.os, k.tape.trans h.tape, k.output.trans h.output, Nat.le_trans h.size k.size, fun j hj => (k.block j hj).trans (h.block j hj)⟩

def EntRel (ρ : Ren) : List Ent → List MapEntry → Prop
  | [], l => l = []
  | x :: r, l => ∃ y s, l = y :: s ∧ VRel sy ρ x.key y.key ∧ VRel sy ρ x.val y.val ∧ y.born = x.born ∧ EntRel ρ r s
variable {sy} in
theorem EntRel.mono {ρ ρ' : Ren} (h : ρ.le ρ') : ∀ {l : List Ent} {l' : List MapEntry}, EntRel sy ρ l l' → EntRel sy ρ' l l'
  | [], _, k => k
  | x :: r, _, ⟨y, s, e, h1, h2, h3, h4⟩ => ⟨y, s, e, h1.mono sy h, h2.mono sy h, h3, EntRel.mono h h4⟩

def InfOk (inf : Inf) (i : BI) (c : Array Value) (e : TypeId) (fz : Nat × Nat) (n fr : Nat) : Prop :=
  (∀ t, inf.ty = some t → e = t) ∧ (inf.z = true → i.sh = 0) ∧ (inf.wh = true → c.size = n) ∧ (inf.low = true → fz.1 = fz.2 ∨ fz.2 ≤ fr + i.sh)

def ORel (ρ : Ren) (w : World) (b : Nat) : Obj → Prop
  | .row cells n es fr inf => ∃ i c e fz, ρ b = some i ∧ ¬ B i.blk ∧ (i.es = es ∧ InfOk inf i c e fz n fr) ∧ w.heap[i.blk]? = some (.cells c e fz) ∧ i.sh + n + i.ext * es ≤ c.size ∧
      (∀ (j : Nat) (v : CV), cells.get j = some v → j < n ∧ ∃ v', c[j + i.sh]? = some v' ∧ VRel sy ρ v v') ∧
      (∀ j : Nat, fr ≤ j → j < n + i.ext * es → ¬ (fz.1 ≤ j + i.sh ∧ j + i.sh < fz.2))
  | .ro cells n => ∃ i c e fz, ρ b = some i ∧ sy.ro i.blk ∧ w.heap[i.blk]? = some (.cells c e fz) ∧
      (∀ (j : Nat) (v : CV), cells.get j = some v → ∃ v', c[j + i.sh]? = some v' ∧ VRel sy ρ v v')
  | .map es clock => ∃ i es', ρ b = some i ∧ ¬ B i.blk ∧ w.heap[i.blk]? = some (.map es' clock) ∧ EntRel sy ρ es es'.toList
  | .siter l n p => ∃ i, ρ b = some i ∧ ¬ B i.blk ∧ i.sh = 0 ∧ w.heap[i.blk]? = some (.stringIter (bytesOf l n) p)
  | .miter m since seen stepped => ∃ i m', ρ b = some i ∧ ¬ B i.blk ∧ i.sh = 0 ∧ w.heap[i.blk]? = some (.mapIter m' since seen.toArray stepped) ∧
      (match m with | none => m' = none | some x => ∃ k, ρ x = some k ∧ m' = some k.blk)
  | .coll => ∃ i, ρ b = some i ∧ ¬ B i.blk ∧ i.sh = 0 ∧ w.heap[i.blk]? = some (.deferred (some []))
  | .dead => True

def owned : Obj → Bool
  | .ro _ _ => false
  | .dead => false
  | _ => true

structure WRel (ρ : Ren) (st : St) (w : World) : Prop where
  below : Kept B w0 w
  base : ∀ k, B k → k < w.heap.size
  ro : ∀ k, sy.ro k → B k
  gone : ∀ b, B.no b → b < st.next ∧ ρ b = none
  glob : ∀ g, g < G → ∃ i, ρ g = some i ∧ i.blk = g ∧ i.sh = 0
  dom : ∀ b i, ρ b = some i → b < st.next
  obj : ∀ b o, st.heap.get b = some o → ORel sy B ρ w b o
  inj : ∀ b1 b2 o1 o2 i1 i2, st.heap.get b1 = some o1 → owned o1 = true → st.heap.get b2 = some o2 → owned o2 = true → ρ b1 = some i1 → ρ b2 = some i2 → i1.blk = i2.blk → b1 = b2
end

section
variable {sy : Sy} {G : Nat} {B B' : Kp} {w0 : World} {ρ ρ' : Ren} {st : St} {w w' : World}

theorem ORel.mono (h : ρ.le ρ') {w : World} {b : Nat} : ∀ {o : Obj}, ORel sy B ρ w b o → ORel sy B ρ' w b o
  | .row _ _ _ _ _, ⟨i, c, e, fz, h1, h2, h3, h4, h5, h6, h7⟩ => ⟨i, c, e, fz, h _ _ h1, h2, h3, h4, h5, fun j v hv => by
      obtain ⟨a, v', b1, b2⟩ := h6 j v hv
      exact ⟨a, v', b1, b2.mono sy h⟩, h7⟩
  | .ro _ _, ⟨i, c, e, fz, h1, h2, h3, h4⟩ => ⟨i, c, e, fz, h _ _ h1, h2, h3, fun j v hv => by
      obtain ⟨v', b1, b2⟩ := h4 j v hv
      exact ⟨v', b1, b2.mono sy h⟩⟩
  | .map _ _, ⟨i, es', h1, h2, h3, h4⟩ => ⟨i, es', h _ _ h1, h2, h3, h4.mono h⟩
  | .siter _ _ _, ⟨i, h1, h2, hz, h3⟩ => ⟨i, h _ _ h1, h2, hz, h3⟩
  | .miter m _ _ _, ⟨i, m', h1, h2, hz, h3, h4⟩ => ⟨i, m', h _ _ h1, h2, hz, h3, by
      cases m with
      | none => exact h4
      | some x => obtain ⟨k, k1, k2⟩ := h4; exact ⟨k, h _ _ k1, k2⟩⟩
  | .coll, ⟨i, h1, h2, hz, h3⟩ => ⟨i, h _ _ h1, h2, hz, h3⟩
  | .dead, _ => trivial

theorem ORel.of_block {w w' : World} {b : Nat} (h : ∀ i, ρ b = some i → w'.heap[i.blk]? = w.heap[i.blk]?) : ∀ {o : Obj}, ORel sy B ρ w b o → ORel sy B ρ w' b o
  | .row _ _ _ _ _, ⟨i, c, e, fz, h1, h2, h3, h4, h5⟩ => ⟨i, c, e, fz, h1, h2, h3, by rw [h i h1]; exact h4, h5⟩
  | .ro _ _, ⟨i, c, e, fz, h1, h2, h3, h4⟩ => ⟨i, c, e, fz, h1, h2, by rw [h i h1]; exact h3, h4⟩
  | .map _ _, ⟨i, es', h1, h2, h3, h4⟩ => ⟨i, es', h1, h2, by rw [h i h1]; exact h3, h4⟩
  | .siter _ _ _, ⟨i, h1, h2, hz, h3⟩ => ⟨i, h1, h2, hz, by rw [h i h1]; exact h3⟩
  | .miter m _ _ _, ⟨i, m', h1, h2, hz, h3, h4⟩ => ⟨i, m', h1, h2, hz, by rw [h i h1]; exact h3, h4⟩
  | .coll, ⟨i, h1, h2, hz, h3⟩ => ⟨i, h1, h2, hz, by rw [h i h1]; exact h3⟩
  | .dead, _ => trivial

theorem ORel.own {w : World} {b : Nat} {o : Obj} (h : ORel sy B ρ w b o) (ho : owned o = true) : ∃ i, ρ b = some i ∧ ¬ B i.blk ∧ i.blk < w.heap.size := by
  cases o <;> simp [owned] at ho
  · obtain ⟨i, c, e, fz, h1, h2, _, h4, _⟩ := h; exact ⟨i, h1, h2, (Array.getElem?_eq_some_iff.1 h4).1⟩
  · obtain ⟨i, _, h1, h2, h4, _⟩ := h; exact ⟨i, h1, h2, (Array.getElem?_eq_some_iff.1 h4).1⟩
  · obtain ⟨i, h1, h2, _, h4⟩ := h; exact ⟨i, h1, h2, (Array.getElem?_eq_some_iff.1 h4).1⟩
  · obtain ⟨i, _, h1, h2, _, h4, _⟩ := h; exact ⟨i, h1, h2, (Array.getElem?_eq_some_iff.1 h4).1⟩
  · obtain ⟨i, h1, h2, _, h4⟩ := h; exact ⟨i, h1, h2, (Array.getElem?_eq_some_iff.1 h4).1⟩

/-- the heap's blocks are as they were -/
theorem WRel.of_heap {st : St} {w w' : World} (h : WRel sy G B w0 ρ st w) (hh : w'.heap = w.heap) (ho : w'.os = w.os) (ht : w'.tape = w.tape) (hu : w'.output = w.output) : WRel sy G B w0 ρ st w' where
  below := h.below.trans ⟨ho, ht, hu, by rw [hh]; exact Nat.le_refl _, fun k _ => by rw [hh]⟩
  base := by rw [hh]; exact h.base
  ro := h.ro
  gone := h.gone
  glob := h.glob
  dom := h.dom
  obj := fun b o hb => (h.obj b o hb).of_block fun i _ => by rw [hh]
  inj := h.inj
theorem WRel.drew {st : St} {w : World} (h : WRel sy G B w0 ρ st w) : WRel sy G B w0 ρ st { w with drawn := w.drawn + 1 } := h.of_heap rfl rfl rfl rfl
theorem WRel.dfs {hp : T Obj} {n : Nat} {d d' : List Dfr} {w : World} (h : WRel sy G B w0 ρ ⟨hp, n, d⟩ w) : WRel sy G B w0 ρ ⟨hp, n, d'⟩ w := ⟨h.below, h.base, h.ro, h.gone, h.glob, h.dom, h.obj, h.inj⟩

/-- an own block is written -/
theorem WRel.update {hp : T Obj} {n : Nat} {d : List Dfr} {w w' : World} {b : Nat} {o o' : Obj} {i : BI} (h : WRel sy G B w0 ρ ⟨hp, n, d⟩ w)
    (hb : hp.get b = some o) (ho : owned o = true) (hi : ρ b = some i) (hB : ¬ B i.blk) (hbel : Kept B w w') (hsame : ∀ k, k ≠ i.blk → w'.heap[k]? = w.heap[k]?)
    (hnew : ORel sy B ρ w' b o') : WRel sy G B w0 ρ ⟨T.set hp o' b, n, d⟩ w' where
  below := h.below.trans hbel
  base := fun k hk => Nat.lt_of_lt_of_le (h.base k hk) hbel.size
  ro := h.ro
  gone := h.gone
  glob := h.glob
  dom := h.dom
  obj := fun x ox hx => by
    simp only [T.get_set] at hx
    by_cases hxb : x = b
    · subst hxb; rw [if_pos rfl] at hx; cases hx; exact hnew
    · rw [if_neg hxb] at hx
      have hox := h.obj x ox hx
      by_cases hown : owned ox = true
      · exact hox.of_block fun i' hi' => hsame _ fun e => hxb (h.inj x b ox o i' i hx hown hb ho hi' hi e)
      · cases ox <;> simp [owned] at hown
        · obtain ⟨i', c, e, fz, h1, h2, h3, h4⟩ := hox
          exact ⟨i', c, e, fz, h1, h2, by rw [hsame _ (fun e => hB (e ▸ h.ro _ h2))]; exact h3, h4⟩
        · trivial
  inj := fun b1 b2 o1 o2 i1 i2 h1 k1 h2 k2 r1 r2 e => by
    simp only [T.get_set] at h1 h2
    by_cases e1 : b1 = b
    · by_cases e2 : b2 = b
      · rw [e1, e2]
      · rw [if_neg e2] at h2
        subst e1
        exact h.inj b1 b2 o o2 i1 i2 hb ho h2 k2 r1 r2 e
    · rw [if_neg e1] at h1
      by_cases e2 : b2 = b
      · subst e2
        exact h.inj b1 b2 o1 o i1 i2 h1 k1 hb ho r1 r2 e
      · rw [if_neg e2] at h2
        exact h.inj b1 b2 o1 o2 i1 i2 h1 k1 h2 k2 r1 r2 e

/-- ρ with one block more -/
def Ren.put (ρ : Ren) (b : Nat) (i : BI) : Ren := fun x => if x = b then some i else ρ x
theorem Ren.le_put {b : Nat} {i : BI} (h : ρ b = none) : ρ.le (ρ.put b i) := fun x j hx => by
  unfold Ren.put
  by_cases e : x = b
  · subst e; rw [h] at hx; cases hx
  · rw [if_neg e]; exact hx
theorem Ren.put_same (ρ : Ren) (b : Nat) (i : BI) : ρ.put b i b = some i := by simp [Ren.put]
theorem WRel.over {st : St} {w : World} (h : WRel sy G B w0 ρ st w) : ¬ B w.heap.size := fun hb => Nat.lt_irrefl _ (h.base _ hb)
theorem WRel.fresh {st : St} {w : World} (h : WRel sy G B w0 ρ st w) : ρ st.next = none := by
  cases e : ρ st.next with
  | none => rfl
  | some i => exact absurd (h.dom _ _ e) (Nat.lt_irrefl _)

/-- a block is made -/
theorem WRel.new {hp : T Obj} {n : Nat} {d : List Dfr} {w : World} {O : Go.Obj} {o : Obj} {bi : BI} (h : WRel sy G B w0 ρ ⟨hp, n, d⟩ w) (hbi : bi.blk = w.heap.size)
    (hnew : ORel sy B (ρ.put n bi) (w.alloc O) n o) : WRel sy G B w0 (ρ.put n bi) ⟨T.set hp o n, n + 1, d⟩ (w.alloc O) where
  below := h.below.trans ⟨rfl, rfl, rfl, by simp, fun k hk => Below.heap_alloc w O k (h.base k hk)⟩
  base := fun k hk => Nat.lt_of_lt_of_le (h.base k hk) (by simp)
  ro := h.ro
  gone := fun b hb => by
    obtain ⟨h1, h2⟩ := h.gone b hb
    simp only at h1
    refine ⟨by simp only; omega, ?_⟩
    unfold Ren.put
    rw [if_neg (by omega)]
    exact h2
  glob := fun g hg => by
    obtain ⟨i, h1, h2⟩ := h.glob g hg
    exact ⟨i, Ren.le_put h.fresh _ _ h1, h2⟩
  dom := fun b i hb => by
    unfold Ren.put at hb
    by_cases e : b = n
    · subst e; exact Nat.lt_succ_self _
    · rw [if_neg e] at hb; have := h.dom _ _ hb; simp only at this ⊢; omega
  obj := fun x ox hx => by
    simp only [T.get_set] at hx
    by_cases hxb : x = n
    · subst hxb; rw [if_pos rfl] at hx; cases hx; exact hnew
    · rw [if_neg hxb] at hx
      have hox := h.obj x ox hx
      by_cases hdead : ox = .dead
      · subst hdead; trivial
      refine (hox.of_block (w' := w.alloc O) fun i hi => ?_).mono (Ren.le_put h.fresh)
      by_cases hown : owned ox = true
      · obtain ⟨i', h1, h2, h3⟩ := hox.own hown
        rw [hi] at h1; cases h1
        exact Below.heap_alloc w O _ h3
      · cases ox <;> simp [owned] at hown
        · obtain ⟨i', c, e, fz, h1, h2, h3, h4⟩ := hox
          rw [hi] at h1; cases h1
          exact Below.heap_alloc w O _ (Array.getElem?_eq_some_iff.1 h3).1
        · exact absurd rfl hdead
  inj := fun b1 b2 o1 o2 i1 i2 h1 k1 h2 k2 r1 r2 e => by
    simp only [T.get_set] at h1 h2
    unfold Ren.put at r1 r2
    by_cases e1 : b1 = n
    · by_cases e2 : b2 = n
      · rw [e1, e2]
      · rw [if_neg e2] at h2 r2
        rw [if_pos e1] at r1
        cases r1
        obtain ⟨i', q1, q2, q3⟩ := (h.obj b2 o2 h2).own k2
        rw [r2] at q1; cases q1
        omega
    · rw [if_neg e1] at h1 r1
      by_cases e2 : b2 = n
      · rw [if_pos e2] at r2
        cases r2
        obtain ⟨i', q1, q2, q3⟩ := (h.obj b1 o1 h1).own k1
        rw [r1] at q1; cases q1
        omega
      · rw [if_neg e2] at h2 r2
        exact h.inj b1 b2 o1 o2 i1 i2 h1 k1 h2 k2 r1 r2 e

/-- fewer blocks are kept -/
theorem WRel.shrink {w1 : World} (h : WRel sy G B' w1 ρ st w) (h1 : ∀ k, B.blk k → B'.blk k) (h2 : ∀ b, B.no b → B'.no b) (h3 : ∀ k, sy.ro k → B.blk k) (h4 : Kept B w0 w) : WRel sy G B w0 ρ st w where
  below := h4
  base := fun k hk => h.base k (h1 k hk)
  ro := h3
  gone := fun b hb => h.gone b (h2 b hb)
  glob := h.glob
  dom := h.dom
  obj := fun b o hb => by
    have hx := h.obj b o hb
    cases o with
    | row cells n es fr inf =>
      obtain ⟨i, c, e, fz, k1, k2, k3⟩ := hx
      exact ⟨i, c, e, fz, k1, fun hb => k2 (h1 _ hb), k3⟩
    | ro cells n => exact hx
    | map es clock =>
      obtain ⟨i, es', k1, k2, k3⟩ := hx
      exact ⟨i, es', k1, fun hb => k2 (h1 _ hb), k3⟩
    | siter l n p =>
      obtain ⟨i, k1, k2, k3⟩ := hx
      exact ⟨i, k1, fun hb => k2 (h1 _ hb), k3⟩
    | miter m since seen stepped =>
      obtain ⟨i, m', k1, k2, k3⟩ := hx
      exact ⟨i, m', k1, fun hb => k2 (h1 _ hb), k3⟩
    | coll =>
      obtain ⟨i, k1, k2, k3⟩ := hx
      exact ⟨i, k1, fun hb => k2 (h1 _ hb), k3⟩
    | dead => trivial
  inj := h.inj
theorem WRel.again {w1 : World} (h : WRel sy G B w1 ρ st w) : WRel sy G B w ρ st w := h.shrink (fun _ h => h) (fun _ h => h) h.ro (Kept.refl B w)

theorem WRel.grown (h : WRel sy G B w0 ρ st w) (hb : Below w.heap.size w w') : WRel sy G B w0 ρ st w' where
  below := h.below.trans ⟨hb.os, hb.tape, hb.output, hb.size, fun k hk => hb.block k (h.base k hk)⟩
  base := fun k hk => Nat.lt_of_lt_of_le (h.base k hk) hb.size
  ro := h.ro
  gone := h.gone
  glob := h.glob
  dom := h.dom
  obj := fun b o ho => by
    have hx := h.obj b o ho
    have key : ∀ i : BI, i.blk < w.heap.size → ρ b = some i → ORel sy B ρ w' b o := fun i hlt hi => hx.of_block fun i' hi' => by
      rw [hi] at hi'; cases hi'
      exact hb.block _ hlt
    cases o with
    | dead => trivial
    | row _ _ _ _ _ => obtain ⟨i, c, e, fz, h1, h2, h3, h4, h5⟩ := hx; exact key i (Array.getElem?_eq_some_iff.1 h4).1 h1
    | ro _ _ => obtain ⟨i, c, e, fz, h1, h2, h3, h4⟩ := hx; exact key i (Array.getElem?_eq_some_iff.1 h3).1 h1
    | map _ _ => obtain ⟨i, es', h1, h2, h3, h4⟩ := hx; exact key i (Array.getElem?_eq_some_iff.1 h3).1 h1
    | siter _ _ _ => obtain ⟨i, h1, h2, hz, h3⟩ := hx; exact key i (Array.getElem?_eq_some_iff.1 h3).1 h1
    | miter m _ _ _ => obtain ⟨i, m', h1, h2, hz, h3, h4⟩ := hx; exact key i (Array.getElem?_eq_some_iff.1 h3).1 h1
    | coll => obtain ⟨i, h1, h2, hz, h3⟩ := hx; exact key i (Array.getElem?_eq_some_iff.1 h3).1 h1
  inj := h.inj


/-- the model makes a block that the executor knows nothing of -/
theorem WRel.aside {O : Go.Obj} (h : WRel sy G B w0 ρ st w) : WRel sy G ⟨fun k => B.blk k ∨ k = w.heap.size, B.no⟩ (w.alloc O) ρ st (w.alloc O) := by
  have h1 : WRel sy G B w0 ρ st (w.alloc O) := h.grown ⟨rfl, rfl, rfl, by simp, fun k hk => Below.heap_alloc w O k hk⟩
  have ne : ∀ {b : Nat} {o : Obj}, st.heap.get b = some o → owned o = true → ∀ {i : BI}, ρ b = some i → i.blk ≠ w.heap.size := fun {b o} hb ho {i} hi e => by
    obtain ⟨i', q1, _, q3⟩ := (h.obj _ _ hb).own ho
    rw [hi] at q1; cases q1
    omega
  exact {
    below := Kept.refl _ _
    base := fun k hk => by
      rcases hk with hk | rfl
      · exact h1.base k hk
      · simp
    ro := fun k hk => .inl (h.ro k hk)
    gone := h.gone
    glob := h.glob
    dom := h.dom
    obj := fun b o hb => by
      have hx := h1.obj b o hb
      cases o with
      | row cells n es fr inf =>
        obtain ⟨i, c, e, fz, k1, k2, k3⟩ := hx
        exact ⟨i, c, e, fz, k1, fun q => q.elim k2 (ne hb rfl k1), k3⟩
      | ro cells n => exact hx
      | map es clock =>
        obtain ⟨i, es', k1, k2, k3⟩ := hx
        exact ⟨i, es', k1, fun q => q.elim k2 (ne hb rfl k1), k3⟩
      | siter l n p =>
        obtain ⟨i, k1, k2, k3⟩ := hx
        exact ⟨i, k1, fun q => q.elim k2 (ne hb rfl k1), k3⟩
      | miter m since seen stepped =>
        obtain ⟨i, m', k1, k2, k3⟩ := hx
        exact ⟨i, m', k1, fun q => q.elim k2 (ne hb rfl k1), k3⟩
      | coll =>
        obtain ⟨i, k1, k2, k3⟩ := hx
        exact ⟨i, k1, fun q => q.elim k2 (ne hb rfl k1), k3⟩
      | dead => trivial
    inj := h.inj }
/-- such a block is written -/
theorem WRel.free {l : Nat} {O : Go.Obj} (h : WRel sy G B' w ρ st w) (hl : B'.blk l) (h1 : ∀ k, B.blk k → B'.blk k ∧ k ≠ l) (h2 : ∀ b, B.no b → B'.no b) (h3 : ∀ k, sy.ro k → B.blk k) (h4 : Kept B w0 w) :
    WRel sy G B w0 ρ st { w with heap := w.heap.setIfInBounds l O } := by
  have hk : Kept B w { w with heap := w.heap.setIfInBounds l O } := ⟨rfl, rfl, rfl, by simp, fun k hk => by
    have : l ≠ k := fun e => (h1 k hk).2 e.symm
    simp [this]⟩
  have hs := h.shrink (B := B) (w0 := w0) (fun k hk => (h1 k hk).1) h2 h3 h4
  exact {
    below := h4.trans hk
    base := fun k q => Nat.lt_of_lt_of_le (hs.base k q) hk.size
    ro := h3
    gone := hs.gone
    glob := hs.glob
    dom := hs.dom
    obj := fun b o hb => by
      have hx := h.obj b o hb
      by_cases hdead : o = .dead
      · subst hdead; trivial
      refine (hs.obj b o hb).of_block fun i hi => ?_
      have : l ≠ i.blk := fun e => by
        by_cases ho : owned o = true
        · obtain ⟨i', q1, q2, _⟩ := hx.own ho
          rw [hi] at q1; cases q1
          exact q2 (e ▸ hl)
        · cases o <;> simp [owned] at ho
          · obtain ⟨i', c, e', fz, q1, q2, _⟩ := hx
            rw [hi] at q1; cases q1
            exact (h1 _ (h3 _ q2)).2 e.symm
          · exact absurd rfl hdead
      simp [this]
    inj := hs.inj }
end
end Go.Proofs.YtbmbjaogcmokoaaGreatDoorX

namespace Go.Proofs.YtbmbjaogcmokoaaGreatDoorX
open Go Go.RowKit
set_option linter.unusedVariables false

section
variable (sy : Sy) (G : Nat) (B : Kp) (w0 : World) (P : Program)

def DOne (ρ : Ren) (d : Dfr) (y : Deferred) : Prop :=
  (∃ b i, d.fn = .ptr b 0 ∧ ρ b = some i ∧ y = { target := .collected i.blk, args := #[] }) ∨ ∃ f fi ca fi' ca' as', d.fn = .func (.func f) fi ca ∧ VRels sy ρ fi fi' ∧ VRels sy ρ ca ca' ∧ VRels sy ρ d.args as' ∧
    y = { target := .fn (.func f) (List.toArray ca'), args := List.toArray fi' ++ List.toArray as' }
def DRel (ρ : Ren) : List Dfr → List Deferred → Prop
  | [], l => l = []
  | d :: r, l => ∃ y s, l = y :: s ∧ DOne sy ρ d y ∧ DRel ρ r s

structure SR (cx : Cx) (ρ : Ren) (env : List CV) (loc : Loc) (a : Act) : Prop where
  ng : cx.ng = G
  size : cx.nt ≤ a.tmps.size
  slot : ∀ t, VRel sy ρ (look cx env loc t) (a.tmps.getD t undef)

/-- what is owed for an operation's answer -/
def OpRes (ρ : Ren) (a : Act) (o : Oper) (w : World) : RV → Prop
  | .err _ => True
  | .ok v st' => ∀ next Q, (∀ ρ' v' w' ds', ρ.le ρ' → VRel sy ρ' v v' → WRel sy G B w0 ρ' st' w' → DRel sy ρ' st'.dfs ds' → next (({ a with defers := ds' } : Act).put o.dst v') w') → o.wp P a w next Q
  | .pan v st' => ∀ next Q, (∀ ρ' v' w', ρ.le ρ' → VRel sy ρ' v v' → WRel sy G B w0 ρ' st' w' → DRel sy ρ' st'.dfs a.defers → Q (.panic [⟨v', false, false⟩]) a w') → o.wp P a w next Q
end

section
variable {sy : Sy} {G : Nat} {B : Kp} {w0 : World} {P : Program} {ρ ρ' : Ren} {cx : Cx} {env : List CV} {loc : Loc} {a : Act} {st st' : St} {w w' : World} {o : Oper}

theorem DOne.mono (h : ρ.le ρ') {d : Dfr} {y : Deferred} (k : DOne sy ρ d y) : DOne sy ρ' d y := by
  rcases k with ⟨b, i, h1, h2, h3⟩ | ⟨f, fi, ca, fi', ca', as', h1, h2, h3, h4, h5⟩
  · exact .inl ⟨b, i, h1, h _ _ h2, h3⟩
  exact .inr ⟨f, fi, ca, fi', ca', as', h1, h2.mono sy h, h3.mono sy h, h4.mono sy h, h5⟩
theorem DRel.mono (h : ρ.le ρ') : ∀ {l : List Dfr} {s : List Deferred}, DRel sy ρ l s → DRel sy ρ' l s
  | [], _, k => k
  | _ :: _, _, ⟨y, s, e, h1, h2⟩ => ⟨y, s, e, h1.mono h, DRel.mono h h2⟩
theorem SR.mono (h : ρ.le ρ') (k : SR sy G cx ρ env loc a) : SR sy G cx ρ' env loc a := ⟨k.ng, k.size, fun t => (k.slot t).mono sy h⟩

theorem ok_val {v : CV} {v' : Value} (hr : (execOp a.eval o).run P w = .ok (.value v') w') (hρ : ρ.le ρ') (hv : VRel sy ρ' v v') (hw : WRel sy G B w0 ρ' st' w')
    (hd : DRel sy ρ st'.dfs a.defers) : OpRes sy G B w0 P ρ a o w (.ok v st') := by
  intro next Q h
  unfold Oper.wp
  rw [hr]
  exact h ρ' v' w' a.defers hρ hv hw (hd.mono hρ)
theorem ok_skip (hr : (execOp a.eval o).run P w = .ok .skip w') (hρ : ρ.le ρ') (hw : WRel sy G B w0 ρ' st' w')
    (hd : DRel sy ρ st'.dfs a.defers) : OpRes sy G B w0 P ρ a o w (.ok (.tup []) st') := by
  intro next Q h
  unfold Oper.wp
  rw [hr]
  exact h ρ' undef w' a.defers hρ (by simp only [VRel]; exact ⟨[], rfl, VRels.nil⟩) hw (hd.mono hρ)

/-! ## Operands -/
theorem evTmpAt_eq (t : Nat) : (evTmpAt t (pos cx.vars t)).f env loc = look cx env loc t := by
  unfold evTmpAt look
  cases pos cx.vars t <;> rfl
theorem evRel (hs : SR sy G cx ρ env loc a) (hw : WRel sy G B w0 ρ st w) (x : Operand) : VRel sy ρ ((ev cx x).f env loc) (a.eval x) := by
  cases x with
  | tmp t => show VRel sy ρ ((evTmpAt t (pos cx.vars t)).f env loc) _; rw [evTmpAt_eq]; exact hs.slot t
  | const v => exact ofValue_rel v
  | global g =>
    unfold ev
    simp only
    cases hb : Nat.blt g cx.ng with
    | false => simp [VRel]
    | true =>
      have hlt : g < cx.ng := by simpa [Nat.blt_eq] using hb
      obtain ⟨i, h1, h2, h3⟩ := hw.glob g (hs.ng ▸ hlt)
      simp only [VRel]
      exact ⟨i, h1, by simp [Act.eval, h2, h3]⟩
  | func f => simp only [ev, VRel]; exact ⟨[], [], by simp [Act.eval], VRels.nil, VRels.nil⟩
theorem evsRel (hs : SR sy G cx ρ env loc a) (hw : WRel sy G B w0 ρ st w) : ∀ (l : List Operand), VRels sy ρ ((evs cx l).f env loc) (l.map a.eval)
  | [] => VRels.nil
  | x :: r => VRels.cons (evRel hs hw x) (evsRel hs hw r)

/-! ## Types -/
theorem run_info {t : TypeId} {i : TypeInfo} (h : P.info? t = some i) (w : World) : (typeInfo t).run P w = .ok i w := by simp [typeInfo, h]
theorem run_under {t : TypeId} {d : TypeDesc} (h : P.underlying t = some d) (w : World) : (underlying t).run P w = .ok d w := by simp [underlying, h]
theorem run_size {t n : Nat} (h : szOf P t = some n) (w : World) : (sizeOf t).run P w = .ok n w := by
  unfold szOf at h
  cases hi : P.info? t with
  | none => rw [hi] at h; cases h
  | some i => rw [hi] at h; cases h; simp [sizeOf, run_info hi]
theorem run_agg {t : Nat} {g : Bool} (h : aggOf P t = some g) (w : World) : (isAgg t).run P w = .ok g w := by
  unfold aggOf at h
  cases hi : P.underlying t with
  | none => rw [hi] at h; cases h
  | some d =>
    rw [hi] at h
    cases h
    simp only [isAgg, Sem.run_bind, run_under hi, Result.andThen]
    cases d <;> rfl
theorem sound1_spec {x z : CV} (h : sound1 x = some z) : z = x ∧ z ≠ .unk ∧ ∀ l, z ≠ .tup l := by
  cases x <;> simp [sound1] at h <;> subst h <;> simp
theorem run_zero {t : Nat} {z : CV} (h : zeroOf P t = some z) (w : World) (ρ : Ren) : ∃ v, (zeroValue t).run P w = .ok v w ∧ VRel sy ρ z v ∧ z ≠ .unk ∧ (∀ l, z ≠ .tup l) := by
  unfold zeroOf at h
  cases hi : P.info? t with
  | none => rw [hi] at h; cases h
  | some i =>
    rw [hi] at h
    simp only at h
    cases hz : i.zero with
    | none => rw [hz] at h; cases h
    | some v =>
      rw [hz] at h
      obtain ⟨rfl, h2, h3⟩ := sound1_spec h
      exact ⟨v, by simp [zeroValue, run_info hi, hz], ofValue_rel v, h2, h3⟩

/-! ## Rows -/
theorem newRow_eq (cs : List CV) (es : Nat) (inf : Inf) (h : T Obj) (n : Nat) (d : List Dfr) (K : Nat → St → RV) :
    newRow cs es inf ⟨h, n, d⟩ K = K n ⟨T.set h (.row (rowOf cs 0 .nil) cs.length es 0 inf) n, n + 1, d⟩ := by
  simp [newRow, forceN_eq, len_eq]
theorem newObj_eq (o : Obj) (h : T Obj) (n : Nat) (d : List Dfr) (K : Nat → St → RV) : newObj o ⟨h, n, d⟩ K = K n ⟨T.set h o n, n + 1, d⟩ := by
  simp [newObj, forceN_eq]
theorem setObj_eq (o : Obj) (b : Nat) (h : T Obj) (n : Nat) (d : List Dfr) (K : St → RV) : setObj o b ⟨h, n, d⟩ K = K ⟨T.set h o b, n, d⟩ := rfl

theorem alloc_heap (w : World) (O : Go.Obj) : (w.alloc O).heap[w.heap.size]? = some O := by
  show (w.heap.push O)[w.heap.size]? = _
  simp
/-- a row that has just been made -/
theorem WRel.row {h : T Obj} {n : Nat} {d : List Dfr} {cs : List CV} {vs rest : List Value} {es ext : Nat} {arr : Array Value} {elem : TypeId} {inf : Inf} (hw : WRel sy G B w0 ρ ⟨h, n, d⟩ w)
    (hv : VRels sy ρ cs vs) (ha : arr.toList = vs ++ rest) (hr : ext * es ≤ rest.length) (hinf : (∀ t, inf.ty = some t → elem = t) ∧ (inf.wh = true → rest = [])) :
    WRel sy G B w0 (ρ.put n ⟨w.heap.size, 0, ext, es⟩) ⟨T.set h (.row (rowOf cs 0 .nil) cs.length es 0 inf) n, n + 1, d⟩ (w.alloc (.cells arr elem)) := by
  refine hw.new rfl ⟨_, arr, elem, (0, 0), Ren.put_same _ _ _, hw.over, ⟨rfl, hinf.1, fun _ => rfl, fun h => (by rw [← Array.length_toList, ha, hinf.2 h, List.append_nil, hv.length]), fun _ => .inl rfl⟩, alloc_heap _ _, ?_, fun j v hj => ?_, fun j _ _ => by simp⟩
  · have h1 : arr.size = vs.length + rest.length := by rw [← Array.length_toList, ha]; simp
    have h2 := hv.length
    simp only
    omega
  · rw [rowOf_get] at hj
    by_cases hlt : 0 ≤ j ∧ j < 0 + cs.length
    · rw [if_pos hlt] at hj
      obtain ⟨v', h1, h2⟩ := hv.get (j - 0) v hj
      have hlt' : j < cs.length := by omega
      refine ⟨hlt', v', ?_, h2.mono sy (Ren.le_put hw.fresh)⟩
      show arr[j + 0]? = _
      rw [Nat.add_zero, ← Array.getElem?_toList, ha, List.getElem?_append_left (by rw [hv.length]; exact hlt')]
      simpa using h1
    · rw [if_neg hlt, T.get_nil] at hj; cases hj

theorem cellsAt_rel (hw : WRel sy G B w0 ρ st w) {b : Nat} {cells : T CV} (h : cellsAt b st = some cells) : ∃ i c e fz, ρ b = some i ∧ w.heap[i.blk]? = some (.cells c e fz) ∧
    ∀ (j : Nat) (v : CV), cells.get j = some v → ∃ v', c[j + i.sh]? = some v' ∧ VRel sy ρ v v' := by
  unfold cellsAt at h
  cases ho : st.heap.get b with
  | none => rw [ho] at h; cases h
  | some x =>
    rw [ho] at h
    have hx := hw.obj b x ho
    cases x <;> simp at h
    · subst h
      obtain ⟨i, c, e, fz, h1, _, _, h4, _, h6, _⟩ := hx
      exact ⟨i, c, e, fz, h1, h4, fun j v hj => (h6 j v hj).2⟩
    · subst h
      obtain ⟨i, c, e, fz, h1, _, h4, h6⟩ := hx
      exact ⟨i, c, e, fz, h1, h4, h6⟩
/-- cells that are read in a row -/
theorem loadN_rel {i : BI} {c : Array Value} {cells : T CV} (hc : ∀ (j : Nat) (v : CV), cells.get j = some v → ∃ v', c[j + i.sh]? = some v' ∧ VRel sy ρ v v') {n ofs : Nat} {l : List CV}
    (hl : loadN cells n ofs = some l) : ∃ l' : List Value, l'.length = n ∧ VRels sy ρ l l' ∧ ∀ j, j < n → c[ofs + i.sh + j]? = l'[j]? := by
  obtain ⟨h1, h2⟩ := loadN_get _ _ _ _ hl
  have key : ∀ j, j < n → ∃ v', c[ofs + i.sh + j]? = some v' ∧ ∀ v, l[j]? = some v → VRel sy ρ v v' := fun j hj => by
    have e := h2 j hj
    have hlt : j < l.length := by omega
    rw [List.getElem?_eq_getElem hlt] at e
    obtain ⟨v', k1, k2⟩ := hc _ _ e
    exact ⟨v', by rw [← k1]; congr 1; omega, fun v hv => by rw [List.getElem?_eq_getElem hlt] at hv; cases hv; exact k2⟩
  refine ⟨(List.range n).map fun j => (c[ofs + i.sh + j]?).getD undef, by simp, VRels.of_get (by simp [h1]) fun j v v' hv hv' => ?_, fun j hj => ?_⟩
  · have hlt : j < n := by
      rcases Nat.lt_or_ge j n with h | h
      · exact h
      · rw [List.getElem?_eq_none (by omega)] at hv; cases hv
    obtain ⟨u, k1, k2⟩ := key j hlt
    simp only [List.getElem?_map, List.getElem?_range hlt, Option.map_some, Option.some.injEq] at hv'
    rw [k1] at hv'
    subst hv'
    exact k2 v hv
  · obtain ⟨u, k1, _⟩ := key j hj
    simp [hj, k1]

theorem run_loadVar {t n : Nat} {g : Bool} (hg : aggOf P t = some g) (hn : szOf P t = some n) (hw : WRel sy G B w0 ρ st w) {b ofs : Nat} {i : BI} (hi : ρ b = some i) {K : CV → RV} {r : RV}
    (hr : loadAt g n b ofs st K = r) : (∃ k, r = .err k) ∨ ∃ v v', K v = r ∧ VRel sy ρ v v' ∧ (loadVar t ⟨i.blk, ofs + i.sh, none⟩).run P w = .ok v' w := by
  unfold loadAt at hr
  cases hc : cellsAt b st with
  | none => rw [hc] at hr; exact .inl ⟨_, hr.symm⟩
  | some cells =>
    rw [hc] at hr
    obtain ⟨i', c, e, fz, h1, h2, h3⟩ := cellsAt_rel hw hc
    rw [hi] at h1; cases h1
    cases g with
    | true =>
      simp only at hr
      cases hl : loadN cells n ofs with
      | none => rw [hl] at hr; exact .inl ⟨_, hr.symm⟩
      | some l =>
        rw [hl] at hr
        obtain ⟨l', k1, k2, k3⟩ := loadN_rel h3 hl
        refine .inr ⟨_, .agg l'.toArray, hr, by simp only [VRel]; exact ⟨l', rfl, k2⟩, ?_⟩
        subst k1
        simp [loadVar, run_agg hg, run_size hn, run_loadCells h2 l' k3]
    | false =>
      simp only at hr
      cases hl : cells.get ofs with
      | none => rw [hl] at hr; exact .inl ⟨_, hr.symm⟩
      | some v =>
        rw [hl] at hr
        obtain ⟨v', k1, k2⟩ := h3 _ _ hl
        exact .inr ⟨v, v', hr, k2, by simp [loadVar, run_agg hg, cell_row h2, k1]⟩
end
end Go.Proofs.YtbmbjaogcmokoaaGreatDoorX

namespace Go.Proofs.YtbmbjaogcmokoaaGreatDoorX
open Go Go.RowKit
set_option linter.unusedVariables false

section
variable {sy : Sy} {G : Nat} {B : Kp} {w0 : World} {P : Program} {ρ ρ' : Ren} {cx : Cx} {env : List CV} {loc : Loc} {a : Act} {st st' : St} {w w' : World} {o : Oper} {call : Caller}

theorem pure_val {v : CV} {v' : Value} (hr : (execOp a.eval o).run P w = .ok (.value v') w) (hw : WRel sy G B w0 ρ st w) (hd : DRel sy ρ st.dfs a.defers) (hv : VRel sy ρ v v') :
    OpRes sy G B w0 P ρ a o w (.ok v st) := ok_val hr (Ren.le_refl _) hv hw hd

theorem move_ok {x : Operand} (ho : o.op = .move x ∨ o.op = .assign x) (hs : SR sy G cx ρ env loc a) (hd : DRel sy ρ st.dfs a.defers) (hw : WRel sy G B w0 ρ st w) :
    OpRes sy G B w0 P ρ a o w ((oMove (ev cx x)).f call env loc st) := by
  refine pure_val ?_ hw hd (evRel hs hw x)
  rcases ho with h | h <;> simp [execOp, h]

theorem pick_ok {c x y : Operand} (ho : o.op = .pick c x y) (hs : SR sy G cx ρ env loc a) (hd : DRel sy ρ st.dfs a.defers) (hw : WRel sy G B w0 ρ st w) :
    OpRes sy G B w0 P ρ a o w ((oPick (ev cx c) (ev cx x) (ev cx y)).f call env loc st) := by
  have hc := evRel hs hw c
  have hx := evRel hs hw x
  have hy := evRel hs hw y
  unfold oPick
  simp only
  generalize (ev cx c).f env loc = v at *
  cases v <;> try exact trivial
  rename_i t
  simp only [VRel] at hc
  cases t
  · exact pure_val (by simp [execOp, ho, hc, asBool]) hw hd hy
  · exact pure_val (by simp [execOp, ho, hc, asBool]) hw hd hx

theorem nilCheck_ok {x : Operand} (ho : o.op = .nilCheck x) (hs : SR sy G cx ρ env loc a) (hd : DRel sy ρ st.dfs a.defers) (hw : WRel sy G B w0 ρ st w) :
    OpRes sy G B w0 P ρ a o w ((oNilCheck (ev cx x)).f call env loc st) := by
  have hx := evRel hs hw x
  unfold oNilCheck
  simp only
  generalize (ev cx x).f env loc = v at *
  cases v <;> try exact trivial
  · have hx' := hx
    simp only [VRel] at hx
    obtain ⟨i, _, e⟩ := hx
    exact pure_val (by simp [execOp, ho, e]) hw hd (e ▸ hx')
  · have hx' := hx
    simp only [VRel] at hx
    obtain ⟨i, _, e⟩ := hx
    exact pure_val (by simp [execOp, ho, e]) hw hd (e ▸ hx')
  · rename_i fn fi ca
    cases fn <;> try exact trivial
    have hx' := hx
    simp only [VRel] at hx
    obtain ⟨fi', ca', e, _⟩ := hx
    exact pure_val (by simp [execOp, ho, e]) hw hd (e ▸ hx')

theorem run_newRow (elem : TypeId) (cells : Array Value) (w : World) : (Go.newRow elem cells).run P w = .ok ⟨w.heap.size, 0, none⟩ (w.alloc (.cells cells elem)) := rfl
theorem run_newObj (O : Go.Obj) (w : World) : (Go.newObj O).run P w = .ok w.heap.size (w.alloc O) := rfl

theorem cells_size {z : CV} {v : Value} (hz : z ≠ .unk) (h : VRel sy ρ z v) : v.cells.toList.length = (cellsOf z).length := (cellsOf_rel hz h).length

theorem newRow_ok {cs : List CV} {vs : List Value} {es : Nat} {inf : Inf} {K : Nat → St → RV} (hcs : VRels sy ρ cs vs) (hw : WRel sy G B w0 ρ st w) {arr : Array Value} {elem : TypeId} (ha : arr.toList = vs) (hinf : ∀ t, inf.ty = some t → elem = t)
    (hK : ∀ st1, st1.dfs = st.dfs → ρ.le (ρ.put st.next ⟨w.heap.size, 0, 0, es⟩) → (ρ.put st.next ⟨w.heap.size, 0, 0, es⟩) st.next = some ⟨w.heap.size, 0, 0, es⟩ →
      WRel sy G B w0 (ρ.put st.next ⟨w.heap.size, 0, 0, es⟩) st1 (w.alloc (.cells arr elem)) → OpRes sy G B w0 P ρ a o w (K st.next st1)) :
    OpRes sy G B w0 P ρ a o w (newRow cs es inf st K) := by
  obtain ⟨h, n, d⟩ := st
  rw [newRow_eq]
  exact hK ⟨_, n + 1, d⟩ rfl (Ren.le_put hw.fresh) (Ren.put_same _ _ _) (hw.row (rest := []) (ext := 0) hcs (by simpa using ha) (by simp) ⟨hinf, fun _ => rfl⟩)

theorem alloc_ok {t : Nat} (ho : o.op = .alloc t) (hs : SR sy G cx ρ env loc a) (hd : DRel sy ρ st.dfs a.defers) (hw : WRel sy G B w0 ρ st w) :
    OpRes sy G B w0 P ρ a o w ((oAlloc t (zeroOf P t) (szOf P t)).f call env loc st) := by
  unfold oAlloc
  cases hz : zeroOf P t with
  | none => exact trivial
  | some z =>
    cases hn : szOf P t with
    | none => exact trivial
    | some n =>
      simp only
      obtain ⟨v, h1, h2, h3, _⟩ := run_zero (sy := sy) hz w ρ
      refine newRow_ok (cellsOf_rel h3 h2) hw (arr := v.cells) (elem := t) rfl (fun _ h => Option.some.inj h) fun st1 hd1 hle hsame hw1 => ?_
      exact ok_val (v' := .pointer (some ⟨w.heap.size, 0, none⟩)) (w' := w.alloc (.cells v.cells t)) (by simp [execOp, ho, Instr.alloc, h1, newVar, run_newRow]) hle
        (by simp only [VRel]; exact ⟨_, hsame, by simp⟩) hw1 (by rw [hd1]; exact hd)

theorem box_ok {t : Nat} {x : Operand} (ho : o.op = .box t x) (hs : SR sy G cx ρ env loc a) (hd : DRel sy ρ st.dfs a.defers) (hw : WRel sy G B w0 ρ st w) :
    OpRes sy G B w0 P ρ a o w ((oBox t (szOf P t) (ev cx x)).f call env loc st) := by
  unfold oBox
  cases hn : szOf P t with
  | none => exact trivial
  | some n =>
    have hx := evRel hs hw x
    simp only
    generalize hv : (ev cx x).f env loc = v at *
    have main : v ≠ .unk → OpRes sy G B w0 P ρ a o w (newRow (cellsOf v) n ⟨some t, true, true, true⟩ st fun b st => .ok (.ptr b 0) st) := fun hu => by
      refine newRow_ok (cellsOf_rel hu hx) hw (arr := (a.eval x).cells) (elem := t) rfl (fun _ h => Option.some.inj h) fun st1 hd1 hle hsame hw1 => ?_
      exact ok_val (v' := .pointer (some ⟨w.heap.size, 0, none⟩)) (w' := w.alloc (.cells (a.eval x).cells t)) (by simp [execOp, ho, Instr.box, newVar, run_newRow]) hle
        (by simp only [VRel]; exact ⟨_, hsame, by simp⟩) hw1 (by rw [hd1]; exact hd)
    cases v <;> first | exact trivial | exact main (by simp)

theorem load_ok {t : Nat} {x : Operand} (ho : o.op = .load t x) (hs : SR sy G cx ρ env loc a) (hd : DRel sy ρ st.dfs a.defers) (hw : WRel sy G B w0 ρ st w) :
    OpRes sy G B w0 P ρ a o w ((oLoad (aggOf P t) (szOf P t) (ev cx x)).f call env loc st) := by
  unfold oLoad
  cases hg : aggOf P t with
  | none => exact trivial
  | some g =>
    cases hn : szOf P t with
    | none => exact trivial
    | some n =>
      have hx := evRel hs hw x
      simp only
      generalize (ev cx x).f env loc = v at *
      cases v <;> try exact trivial
      rename_i b ofs
      simp only [VRel] at hx
      obtain ⟨i, hi, e⟩ := hx
      simp only
      generalize hr : loadAt g n b ofs st (fun v => .ok v st) = r
      rcases run_loadVar hg hn hw hi hr with ⟨k, rfl⟩ | ⟨v, v', rfl, hv, hrun⟩
      · exact trivial
      · exact pure_val (by simp [execOp, ho, Instr.loadAt, e, Instr.sureAddr, hrun]) hw hd hv

theorem all_one {l : List CV} {l' : List Value} (h : VRels sy ρ l l') (k : l.all oneCell = true) : ∀ v ∈ l', isOne v = true := by
  induction l generalizing l' with
  | nil => simp only [VRels] at h; subst h; simp
  | cons x r ih =>
    simp only [VRels] at h
    obtain ⟨y, s, rfl, hx, hr⟩ := h
    simp only [List.all_cons, Bool.and_eq_true] at k
    intro v hv
    rcases List.mem_cons.1 hv with rfl | hv
    · exact oneCell_rel k.1 hx
    · exact ih hr k.2 v hv

/-- cells are stored in a row -/
theorem storeAt_rel {l : List CV} {vs : List Value} {b ofs : Nat} {i : BI} {K : St → RV} {r : RV} (hl : VRels sy ρ l vs) (hw : WRel sy G B w0 ρ st w) (hi : ρ b = some i) (hr : storeAt l b ofs st K = r) :
    (∃ k, r = .err k) ∨ ∃ st' w', K st' = r ∧ st'.dfs = st.dfs ∧ WRel sy G B w0 ρ st' w' ∧ (storeCells ⟨i.blk, ofs + i.sh, none⟩ vs).run P w = .ok () w' := by
  obtain ⟨h, n, d⟩ := st
  unfold storeAt at hr
  cases hb : h.get b with
  | none => rw [show (⟨h, n, d⟩ : St).heap.get b = none from hb] at hr; exact .inl ⟨_, hr.symm⟩
  | some x =>
    rw [show (⟨h, n, d⟩ : St).heap.get b = some x from hb] at hr
    cases x <;> simp only at hr <;> try exact .inl ⟨_, hr.symm⟩
    rename_i cells m es fr inf
    cases hc : (Nat.ble fr ofs && (Nat.ble (Nat.add ofs (len l)) m && l.all oneCell)) with
    | false => rw [hc] at hr; exact .inl ⟨_, hr.symm⟩
    | true =>
      rw [hc] at hr
      simp only [cond_true, setObj_eq] at hr
      simp only [Bool.and_eq_true, Nat.ble_eq, len_eq] at hc
      obtain ⟨h1, h2, h3⟩ := hc
      have h2' : ofs + l.length ≤ m := h2
      have hox := hw.obj b _ hb
      obtain ⟨i', c, e, fz, k1, k2, k3, k4, k5, k6, k7⟩ := hox
      rw [hi] at k1; cases k1
      have hlen := hl.length
      obtain ⟨c', z1, z2, z3⟩ := run_storeCells (P := P) vs w i.blk (ofs + i.sh) 0 c e fz k4 (by omega)
        (fun j hj => by
          have := k7 (ofs + j) (by omega) (by omega)
          rw [show ofs + i.sh + 0 + j = ofs + j + i.sh by omega]; exact this) (all_one hl h3)
      refine .inr ⟨_, _, hr, rfl, ?_, z2⟩
      have hlt : i.blk < w.heap.size := (Array.getElem?_eq_some_iff.1 k4).1
      refine hw.update hb rfl hi k2 ?_ (fun k hk => setRow_heap_ne hk _ _ _) ?_
      · exact ⟨rfl, rfl, rfl, by rw [setRow_size]; exact Nat.le_refl _, fun k hk => setRow_heap_ne (by intro e; rw [e] at hk; exact k2 hk) _ _ _⟩
      · refine ⟨i, c', e, fz, hi, k2, ⟨k3.1, k3.2.1, k3.2.2.1, fun h => (by rw [z1]; exact k3.2.2.2.1 h), k3.2.2.2.2⟩, setRow_heap_same hlt _ _ _, by omega, fun j v hj => ?_, k7⟩
        rw [storeL_get] at hj
        by_cases hin : ofs ≤ j ∧ j < ofs + l.length
        · rw [if_pos hin] at hj
          obtain ⟨v', q1, q2⟩ := hl.get _ _ hj
          refine ⟨by omega, v', ?_, q2⟩
          rw [z3, if_pos (by omega), show j + i.sh - (ofs + i.sh + 0) = j - ofs by omega]
          exact q1
        · rw [if_neg hin] at hj
          obtain ⟨q0, v', q1, q2⟩ := k6 j v hj
          refine ⟨q0, v', ?_, q2⟩
          rw [z3, if_neg (by omega)]
          exact q1

theorem store_ok {t : Nat} {x y : Operand} (ho : o.op = .store t x y) (hs : SR sy G cx ρ env loc a) (hd : DRel sy ρ st.dfs a.defers) (hw : WRel sy G B w0 ρ st w) :
    OpRes sy G B w0 P ρ a o w ((oStore (szOf P t) (ev cx x) (ev cx y)).f call env loc st) := by
  unfold oStore
  cases hn : szOf P t with
  | none => exact trivial
  | some n =>
    have hx := evRel hs hw x
    have hy := evRel hs hw y
    simp only
    generalize (ev cx x).f env loc = v at *
    cases v <;> try exact trivial
    rename_i b ofs
    simp only [VRel] at hx
    obtain ⟨i, hi, e⟩ := hx
    simp only
    generalize (ev cx y).f env loc = u at *
    cases hlen : Nat.beq (len (cellsOf u)) n with
    | false => exact trivial
    | true =>
      simp only [cond_true]
      by_cases hu : u = .unk
      · subst hu
        generalize hr : storeAt (cellsOf .unk) b ofs st (fun st => RV.ok (.tup []) st) = r
        have : ∃ k, r = .err k := by
          subst hr
          unfold storeAt
          split
          · split
            · simp [cellsOf, oneCell]
            · exact ⟨_, rfl⟩
          · exact ⟨_, rfl⟩
        obtain ⟨k, rfl⟩ := this
        exact trivial
      · have hcs := cellsOf_rel hu hy
        generalize hr : storeAt (cellsOf u) b ofs st (fun st => RV.ok (.tup []) st) = r
        rcases storeAt_rel (P := P) hcs hw hi hr with ⟨k, rfl⟩ | ⟨st1, w1, rfl, hd1, hw1, hrun⟩
        · exact trivial
        · refine ok_skip (w' := w1) ?_ (Ren.le_refl _) hw1 (by rw [hd1]; exact hd)
          have hl : (a.eval y).cells.size = n := by
            have h1 := hcs.length
            have h2 : (cellsOf u).length = n := by rw [← len_eq]; exact Nat.eq_of_beq_eq_true hlen
            rw [← Array.length_toList]; omega
          simp [execOp, ho, Instr.storeAt, e, Instr.sureAddr, storeVar, run_size hn, hl, hrun]
end
end Go.Proofs.YtbmbjaogcmokoaaGreatDoorX

namespace Go.Proofs.YtbmbjaogcmokoaaGreatDoorX
open Go Go.RowKit
set_option linter.unusedVariables false

theorem over_nil (l : List CV) (off : Nat) : over [] l off = [] := rfl
theorem over_zero_nil (c : CV) (cs : List CV) : over (c :: cs) [] 0 = c :: over cs [] 0 := rfl
theorem over_zero_cons (c x : CV) (cs l : List CV) : over (c :: cs) (x :: l) 0 = x :: over cs l 0 := rfl
theorem over_succ (c : CV) (cs l : List CV) (m : Nat) : over (c :: cs) l (m + 1) = c :: over cs l m := by cases l <;> rfl
theorem over_length : ∀ (cs l : List CV) (off : Nat), (over cs l off).length = cs.length
  | [], l, off => by simp [over_nil]
  | c :: cs, l, off + 1 => by rw [over_succ]; simp [over_length cs l off]
  | c :: cs, [], 0 => by rw [over_zero_nil]; simp [over_length cs [] 0]
  | c :: cs, x :: l, 0 => by rw [over_zero_cons]; simp [over_length cs l 0]
theorem over_get : ∀ (cs l : List CV) (off j : Nat), off + l.length ≤ cs.length → (over cs l off)[j]? = if off ≤ j ∧ j < off + l.length then l[j - off]? else cs[j]?
  | [], l, off, j, h => by
    have : l = [] := List.length_eq_zero_iff.1 (by simp only [List.length_nil] at h; omega)
    subst this
    rw [over_nil, if_neg (by simp)]
  | c :: cs, l, off + 1, j, h => by
    rw [over_succ]
    cases j with
    | zero => simp
    | succ j =>
      rw [List.getElem?_cons_succ, over_get cs l off j (by simp at h; omega)]
      by_cases hc : off ≤ j ∧ j < off + l.length
      · rw [if_pos hc, if_pos (by omega), Nat.add_sub_add_right]
      · rw [if_neg hc, if_neg (by omega), List.getElem?_cons_succ]
  | c :: cs, [], 0, j, h => by
    rw [over_zero_nil]
    cases j with
    | zero => simp
    | succ j =>
      rw [List.getElem?_cons_succ, over_get cs [] 0 j (by simp)]
      simp
  | c :: cs, x :: l, 0, j, h => by
    rw [over_zero_cons]
    cases j with
    | zero => simp
    | succ j =>
      rw [List.getElem?_cons_succ, over_get cs l 0 j (by simp at h ⊢; omega)]
      by_cases hc : 0 ≤ j ∧ j < 0 + l.length
      · rw [if_pos hc, if_pos (by simp; omega)]
        simp
      · rw [if_neg hc, if_neg (by simp; omega), List.getElem?_cons_succ]

theorem fold_set (off : Nat) : ∀ (l : List Value) (k : Nat) (arr : Array Value), (l.zipIdx k).foldl (fun (cs : Array Value) (p : Value × Nat) => cs.setIfInBounds (off + p.2) p.1) arr =
    (l.zipIdx k).foldl (fun (cs : Array Value) (p : Value × Nat) => cs.setIfInBounds (off + p.2) p.1) arr ∧
    ((l.zipIdx k).foldl (fun (cs : Array Value) (p : Value × Nat) => cs.setIfInBounds (off + p.2) p.1) arr).size = arr.size ∧
    (off + k + l.length ≤ arr.size → ∀ j : Nat, ((l.zipIdx k).foldl (fun (cs : Array Value) (p : Value × Nat) => cs.setIfInBounds (off + p.2) p.1) arr)[j]? =
      if off + k ≤ j ∧ j < off + k + l.length then l[j - (off + k)]? else arr[j]?)
  | [], k, arr => ⟨rfl, rfl, fun _ j => by rw [if_neg (by simp)]; rfl⟩
  | v :: l, k, arr => by
    obtain ⟨_, h2, h3⟩ := fold_set off l (k + 1) (arr.setIfInBounds (off + k) v)
    refine ⟨rfl, ?_, fun hs j => ?_⟩
    · simp only [List.zipIdx_cons, List.foldl_cons]
      rw [h2]; simp
    · simp only [List.zipIdx_cons, List.foldl_cons]
      rw [h3 (by simp at hs ⊢; omega) j]
      have hs' : off + k + (l.length + 1) ≤ arr.size := by simpa using hs
      by_cases hj : j = off + k
      · subst hj
        rw [if_neg (by omega), if_pos (by simp), Array.getElem?_setIfInBounds]
        simp
        omega
      · rw [Array.getElem?_setIfInBounds, if_neg (Ne.symm hj)]
        by_cases hc : off + (k + 1) ≤ j ∧ j < off + (k + 1) + l.length
        · rw [if_pos hc, if_pos (by simp; omega), show j - (off + k) = (j - (off + (k + 1))) + 1 by omega]
          simp
        · rw [if_neg hc, if_neg (by simp; omega)]

section
variable {sy : Sy} {G : Nat} {B : Kp} {w0 : World} {P : Program} {ρ ρ' : Ren} {cx : Cx} {env : List CV} {loc : Loc} {a : Act} {st st' : St} {w w' : World} {o : Oper} {call : Caller}

theorem over_rel {cs l : List CV} {vs ls : List Value} {off : Nat} (h : VRels sy ρ cs vs) (k : VRels sy ρ l ls) (hs : off + l.length ≤ cs.length) :
    VRels sy ρ (over cs l off) (((ls.zipIdx 0).foldl (fun (cs : Array Value) (p : Value × Nat) => cs.setIfInBounds (off + p.2) p.1) vs.toArray).toList) := by
  obtain ⟨_, h2, h3⟩ := fold_set off ls 0 vs.toArray
  have e1 := h.length
  have e2 := k.length
  refine VRels.of_get (by rw [Array.length_toList, h2, over_length]; simpa using e1) fun j v v' hv hv' => ?_
  rw [over_get _ _ _ _ hs] at hv
  rw [Array.getElem?_toList, h3 (by simp; omega)] at hv'
  by_cases hc : off ≤ j ∧ j < off + l.length
  · rw [if_pos hc] at hv
    rw [if_pos (by omega)] at hv'
    obtain ⟨u, q1, q2⟩ := k.get _ _ hv
    rw [Nat.add_zero, q1] at hv'
    cases hv'
    exact q2
  · rw [if_neg hc] at hv
    rw [if_neg (by omega)] at hv'
    obtain ⟨u, q1, q2⟩ := h.get _ _ hv
    rw [List.getElem?_toArray, q1] at hv'
    cases hv'
    exact q2

theorem fill_rel {place : Nat → Option (Nat × Nat)} {K : List CV → RV} {r : RV} (hs : SR sy G cx ρ env loc a) (hw : WRel sy G B w0 ρ st w) :
    ∀ (parts : List (Nat × Operand)) (size : Nat) (cs : List CV) (vs : Array Value), cs.length = size → VRels sy ρ cs vs.toList → (fillF place cx parts size).f cs env loc K = r →
      (∃ k, r = .err k) ∨ ∃ cs' vs', K cs' = r ∧ cs'.length = size ∧ VRels sy ρ cs' vs'.toList ∧ Instr.fill place vs (parts.map fun p => (p.1, a.eval p.2)) = some vs'
  | [], size, cs, vs, hl, hv, hr => .inr ⟨cs, vs, hr, hl, hv, rfl⟩
  | (i, x) :: rest, size, cs, vs, hl, hv, hr => by
    unfold fillF at hr
    cases hp : place i with
    | none => rw [hp] at hr; exact .inl ⟨_, hr.symm⟩
    | some on =>
      obtain ⟨off, n⟩ := on
      rw [hp] at hr
      simp only at hr
      cases hb : Nat.ble (Nat.add off n) size with
      | false => rw [hb] at hr; exact .inl ⟨_, hr.symm⟩
      | true =>
        rw [hb] at hr
        simp only [cond_true] at hr
        have hx := evRel hs hw x
        generalize (ev cx x).f env loc = v at *
        cases hc : (Nat.beq (len (cellsOf v)) n && (cellsOf v).all oneCell) with
        | false => rw [hc] at hr; exact .inl ⟨_, hr.symm⟩
        | true =>
          rw [hc] at hr
          simp only [cond_true] at hr
          simp only [Bool.and_eq_true, Nat.beq_eq, len_eq] at hc
          have hu : v ≠ .unk := fun e => by subst e; simp [cellsOf, oneCell] at hc
          have hcs := cellsOf_rel hu hx
          have hble : off + n ≤ size := by simpa [Nat.ble_eq] using hb
          have hol := over_rel (off := off) hv hcs (by omega)
          have hlen := hcs.length
          have hvl := hv.length
          rcases fill_rel hs hw rest size _ _ (by rw [over_length]; exact hl) hol hr with h | ⟨cs', vs', h1, h2, h3, h4⟩
          · exact .inl h
          · refine .inr ⟨cs', vs', h1, h2, h3, ?_⟩
            simp only [List.map_cons, Instr.fill, hp]
            have hsz : (a.eval x).cells.size = n := by rw [← Array.length_toList]; omega
            have hsz2 : vs.size = size := by rw [← Array.length_toList]; omega
            rw [if_neg (by simp [hsz, hsz2]; omega)]
            rw [← h4]
            congr 1
            rw [← Array.foldl_toList]
            simp

theorem places_eq : ∀ {fs : List Field} {l : List (Nat × Nat)}, placesOf P fs = some l → fs.mapM (fun f => (P.info? f.type).map fun i => (f.offset, i.size)) = some l
  | [], l, h => by simpa [placesOf] using h
  | f :: fs, l, h => by
    unfold placesOf at h
    cases hi : P.info? f.type with
    | none => simp [hi] at h
    | some i =>
      cases hr : placesOf P fs with
      | none => simp [hi, hr] at h
      | some rest =>
        simp [hi, hr] at h
        subst h
        have := places_eq hr
        simp [List.mapM_cons, hi, this]

theorem zero_info {t : Nat} {z : CV} (h : zeroOf P t = some z) : ∃ i v, P.info? t = some i ∧ i.zero = some v ∧ VRel sy ρ z v ∧ z ≠ .unk := by
  unfold zeroOf at h
  cases hi : P.info? t with
  | none => rw [hi] at h; cases h
  | some i =>
    rw [hi] at h
    simp only at h
    cases hz : i.zero with
    | none => rw [hz] at h; cases h
    | some v =>
      rw [hz] at h
      obtain ⟨rfl, h2, h3⟩ := sound1_spec h
      exact ⟨i, v, rfl, hz, ofValue_rel v, h2⟩

theorem buildF_ok {t : Nat} {parts : Array (Nat × Operand)} {place : Nat → Option (Nat × Nat)} {z : CV} {v : Value} (ho : o.op = .build t parts) (hs : SR sy G cx ρ env loc a)
    (hd : DRel sy ρ st.dfs a.defers) (hw : WRel sy G B w0 ρ st w) (hz : VRel sy ρ z v) (hu : z ≠ .unk)
    (hb : ∀ l vs', Instr.fill place v.cells l = some vs' → P.built t l = some vs') :
    OpRes sy G B w0 P ρ a o w ((buildF cx (cellsOf z) place parts.toList).f call env loc st) := by
  unfold buildF
  simp only
  generalize hr : (fillF place cx parts.toList (len (cellsOf z))).f (cellsOf z) env loc (fun l => RV.ok (.agg l) st) = r
  rcases fill_rel hs hw parts.toList _ (cellsOf z) v.cells (len_eq _).symm (cellsOf_rel hu hz) hr with ⟨k, rfl⟩ | ⟨cs', vs', rfl, h2, h3, h4⟩
  · exact trivial
  · refine pure_val (v' := .agg vs') ?_ hw hd (by simp only [VRel]; exact ⟨vs'.toList, by simp, h3⟩)
    have := run_build (P := P) w t (parts.map fun p => (p.1, a.eval p.2)) vs' (hb _ _ (by simpa using h4))
    simp [execOp, ho]
    have e : (parts.map fun x => match x with | (i, x) => (i, a.eval x)) = parts.map fun p => (p.1, a.eval p.2) := rfl
    rw [e, this]
    rfl

theorem build_ok {t : Nat} {parts : Array (Nat × Operand)} (ho : o.op = .build t parts) (hs : SR sy G cx ρ env loc a) (hd : DRel sy ρ st.dfs a.defers) (hw : WRel sy G B w0 ρ st w) :
    OpRes sy G B w0 P ρ a o w ((oBuild P cx t parts.toList).f call env loc st) := by
  unfold oBuild
  cases hz : zeroOf P t with
  | none => exact trivial
  | some z =>
    obtain ⟨i, v, h1, h2, h3, h4⟩ := zero_info (sy := sy) (ρ := ρ) hz
    cases hd' : P.underlying t with
    | none => exact trivial
    | some d =>
      simp only
      cases d <;> try exact trivial
      · rename_i n e
        cases hn : szOf P e with
        | none => simp only [hn]; exact trivial
        | some n' =>
          simp only [hn]
          refine buildF_ok ho hs hd hw h3 h4 fun l vs' hf => ?_
          unfold szOf at hn
          cases he : P.info? e with
          | none => rw [he] at hn; cases hn
          | some ie =>
            rw [he] at hn
            cases hn
            simp only [Program.built, h1, hd', h2, he]
            exact hf
      · rename_i fs
        cases hp : placesOf P fs.toList with
        | none => simp only [hp]; exact trivial
        | some ps =>
          simp only [hp]
          refine buildF_ok ho hs hd hw h3 h4 fun l vs' hf => ?_
          simp only [Program.built, h1, hd', h2, places_eq hp]
          simpa using hf
end
end Go.Proofs.YtbmbjaogcmokoaaGreatDoorX

namespace Go.Proofs.YtbmbjaogcmokoaaGreatDoorX
open Go
set_option linter.unusedVariables false

theorem bytesL_get (l n i : Nat) (h : i < l) : (bytesL l n)[i]? = some (UInt8.ofNat (n >>> (8 * i))) := by
  simp [bytesL, h]
theorem ofNat_mod {x y : Nat} (h : x % 256 = y % 256) : UInt8.ofNat x = UInt8.ofNat y := by
  apply UInt8.toNat_inj.1
  simpa [UInt8.toNat_ofNat'] using h
theorem shift_div (n i : Nat) : n >>> (8 * i) = n / 256 ^ i := by
  rw [Nat.shiftRight_eq_div_pow, Nat.pow_mul]
theorem shiftl_mul (n i : Nat) : n <<< (8 * i) = n * 256 ^ i := by
  rw [Nat.shiftLeft_eq, Nat.pow_mul]
theorem bytesL_ext {l n : Nat} {m : List UInt8} (hl : m.length = l) (h : ∀ i, i < l → m[i]? = some (UInt8.ofNat (n / 256 ^ i))) : bytesL l n = m := by
  apply List.ext_getElem?
  intro i
  by_cases hi : i < l
  · rw [bytesL_get _ _ _ hi, h i hi, shift_div]
  · rw [List.getElem?_eq_none (by rw [bytesL_length]; omega), List.getElem?_eq_none (by omega)]
theorem div_mod_low {x y i l : Nat} (hi : i < l) (h : x % 256 ^ l = y % 256 ^ l) : x / 256 ^ i % 256 = y / 256 ^ i % 256 := by
  have hd : 256 ^ i * 256 ∣ 256 ^ l := by
    rw [← Nat.pow_succ]
    exact Nat.pow_dvd_pow 256 hi
  have hx : x % (256 ^ i * 256) = y % (256 ^ i * 256) := by
    rw [← Nat.mod_mod_of_dvd x hd, h, Nat.mod_mod_of_dvd y hd]
  rw [← Nat.mod_mul_right_div_self, hx, Nat.mod_mul_right_div_self]
theorem low_eq (l n : Nat) : low l n = n % 256 ^ l := rfl
theorem bytesL_low {l n m : Nat} (h : n % 256 ^ l = m % 256 ^ l) : bytesL l n = bytesL l m :=
  bytesL_ext (bytesL_length _ _) fun i hi => by rw [bytesL_get _ _ _ hi, shift_div]; exact congrArg some (ofNat_mod (div_mod_low hi h.symm))
theorem bytesL_append (l n m k : Nat) : bytesL (Nat.add l m) (Nat.add (low l n) (Nat.shiftLeft k (Nat.mul 8 l))) = bytesL l n ++ bytesL m k := by
  apply bytesL_ext (by simp [bytesL_length])
  intro i hi
  have e : Nat.add (low l n) (Nat.shiftLeft k (Nat.mul 8 l)) = n % 256 ^ l + k * 256 ^ l := by
    show low l n + k <<< (8 * l) = _
    rw [shiftl_mul, low_eq]
  rw [e]
  have hi' : i < l + m := hi
  by_cases h : i < l
  · rw [List.getElem?_append_left (by rw [bytesL_length]; exact h), bytesL_get _ _ _ h, shift_div]
    refine congrArg some (ofNat_mod (div_mod_low h ?_))
    rw [Nat.add_mul_mod_self_right, Nat.mod_mod]
  · rw [List.getElem?_append_right (by rw [bytesL_length]; omega), bytesL_length, bytesL_get _ _ _ (by omega), shift_div]
    refine congrArg some (congrArg UInt8.ofNat ?_)
    have hp : 256 ^ i = 256 ^ l * 256 ^ (i - l) := by rw [← Nat.pow_add]; congr 1; omega
    have hpos : 0 < 256 ^ l := Nat.pow_pos (by omega)
    rw [hp, ← Nat.div_div_eq_div_mul, Nat.add_mul_div_right _ _ hpos, Nat.div_eq_of_lt (Nat.mod_lt _ hpos), Nat.zero_add]
theorem bytesL_succ (l n : Nat) : bytesL (l + 1) n = UInt8.ofNat n :: bytesL l (n / 256) := by
  apply bytesL_ext (by simp [bytesL_length])
  intro i hi
  cases i with
  | zero => simp
  | succ i =>
    rw [List.getElem?_cons_succ, bytesL_get _ _ _ (by omega), shift_div, Nat.pow_succ', Nat.div_div_eq_div_mul]
theorem bytesL_inj : ∀ (l n m : Nat), bytesL l n = bytesL l m → n % 256 ^ l = m % 256 ^ l
  | 0, n, m, _ => by omega
  | l + 1, n, m, h => by
    rw [bytesL_succ, bytesL_succ] at h
    simp only [List.cons.injEq] at h
    have h1 : n % 256 = m % 256 := by
      have := congrArg UInt8.toNat h.1
      simpa [UInt8.toNat_ofNat'] using this
    have h2 := bytesL_inj l _ _ h.2
    rw [Nat.pow_succ', Nat.mod_mul, Nat.mod_mul, h1, h2]
theorem bytes_toList (s : ByteArray) : s.toList = s.data.toList := ByteArray.toList_eq s
theorem eqStr_eq (l n m k : Nat) : eqStr l n m k = ((bytesOf l n).toList == (bytesOf m k).toList) := by
  rw [bytes_toList, bytes_toList]
  show (Nat.beq l m && Nat.beq (low l n) (low l k)) = (bytesL l n == bytesL m k)
  apply Bool.eq_iff_iff.2
  simp only [Bool.and_eq_true, beq_iff_eq, Nat.beq_eq]
  constructor
  · rintro ⟨rfl, h⟩
    exact bytesL_low h
  · intro h
    have hl : l = m := by have := congrArg List.length h; simpa [bytesL_length] using this
    subst hl
    exact ⟨rfl, bytesL_inj l n k h⟩
theorem bytesL_slice {l n lo hi : Nat} (h1 : lo ≤ hi) (h2 : hi ≤ l) : bytesL (Nat.sub hi lo) (low (Nat.sub hi lo) (Nat.shiftRight n (Nat.mul 8 lo))) = ((bytesL l n).drop lo).take (hi - lo) := by
  have e : Nat.shiftRight n (Nat.mul 8 lo) = n / 256 ^ lo := shift_div n lo
  rw [e, low_eq]
  show bytesL (hi - lo) (n / 256 ^ lo % 256 ^ (hi - lo)) = _
  rw [bytesL_low (Nat.mod_mod _ _)]
  apply bytesL_ext (by simp [bytesL_length]; omega)
  intro i hi'
  rw [List.getElem?_take_of_lt hi', List.getElem?_drop, bytesL_get _ _ _ (by omega), shift_div, Nat.pow_add, Nat.div_div_eq_div_mul]
theorem bytesOf_extract {l n lo hi : Nat} (h1 : lo ≤ hi) (h2 : hi ≤ l) : (bytesOf l n).extract lo hi = bytesOf (Nat.sub hi lo) (low (Nat.sub hi lo) (Nat.shiftRight n (Nat.mul 8 lo))) := by
  unfold bytesOf
  rw [bytesL_slice h1 h2]
  apply ByteArray.ext
  apply Array.ext'
  rw [ByteArray.data_extract]
  simp
theorem bytesOf_append (l n m k : Nat) : bytesOf l n ++ bytesOf m k = bytesOf (Nat.add l m) (Nat.add (low l n) (Nat.shiftLeft k (Nat.mul 8 l))) := by
  unfold bytesOf
  rw [bytesL_append]
  apply ByteArray.ext
  simp
theorem bytesOf_get {l n k : Nat} (h : k < l) : (bytesOf l n)[k]? = some (UInt8.ofNat (n >>> (8 * k))) := by
  have hs : k < (bytesOf l n).size := by rw [bytesOf_size]; exact h
  rw [getElem?_pos (bytesOf l n) k hs]
  have := bytesL_get l n k h
  simp only [bytesOf, ByteArray.getElem_eq_getElem_data]
  rw [List.getElem?_eq_getElem (by rw [bytesL_length]; exact h)] at this
  simpa using this
theorem byteAt_eq (n k : Nat) : ((UInt8.ofNat (n >>> (8 * k))).toNat : Int) = Int.ofNat (byteAt n k) := by
  simp [byteAt]
  rfl
end Go.Proofs.YtbmbjaogcmokoaaGreatDoorX

namespace Go.Proofs.YtbmbjaogcmokoaaGreatDoorX
open Go Go.RowKit
set_option linter.unusedVariables false

section
variable {sy : Sy} {G : Nat} {B : Kp} {w0 : World} {P : Program} {ρ ρ' : Ren} {cx : Cx} {env : List CV} {loc : Loc} {a : Act} {st st' : St} {w w' : World} {o : Oper} {call : Caller}

theorem repL_length (z : List CV) : ∀ n, (repL z n).length = n * z.length
  | 0 => by rw [Nat.zero_mul]; rfl
  | n + 1 => by
    show (z ++ repL z n).length = _
    rw [List.length_append, repL_length z n, Nat.add_mul]; omega
theorem repL_get (z : List CV) : ∀ (n j : Nat), j < n * z.length → (repL z n)[j]? = z[j % z.length]?
  | 0, j, h => by omega
  | n + 1, j, h => by
    show (z ++ repL z n)[j]? = _
    by_cases hj : j < z.length
    · rw [List.getElem?_append_left hj, Nat.mod_eq_of_lt hj]
    · rw [List.getElem?_append_right (by omega), repL_get z n _ (by rw [Nat.add_mul] at h; omega)]
      congr 1
      conv => rhs; rw [show j = (j - z.length) + z.length by omega, Nat.add_mod_right]
theorem repL_rel {z : List CV} {v : Array Value} (h : VRels sy ρ z v.toList) (n : Nat) : VRels sy ρ (repL z n) ((Array.range (n * z.length)).map (fun j => v[j % v.size]!)).toList := by
  have hl : v.size = z.length := by rw [← Array.length_toList]; exact h.length
  refine VRels.of_get (by simp [repL_length]) fun j x x' hx hx' => ?_
  have hlt : j < n * z.length := by
    rcases Nat.lt_or_ge j (n * z.length) with q | q
    · exact q
    · rw [List.getElem?_eq_none (by rw [repL_length]; exact q)] at hx; cases hx
  rw [repL_get z n j hlt] at hx
  obtain ⟨u, q1, q2⟩ := h.get _ _ hx
  have hpos : 0 < z.length := by rcases Nat.eq_zero_or_pos z.length with e | e; · rw [e] at hlt; omega
                                 · exact e
  have hm : j % v.size < v.size := by rw [hl]; exact Nat.mod_lt _ hpos
  have hu : v[j % v.size]! = u := by
    rw [Array.getElem?_toList] at q1
    rw [getElem!_pos v (j % v.size) hm]
    rw [← hl, Array.getElem?_eq_getElem hm] at q1
    exact Option.some.inj q1
  rw [Array.getElem?_toList] at hx'
  simp [hlt] at hx'
  rw [← hx', hu]
  exact q2

theorem elemOfSlice_spec {t e : Nat} (h : elemOfSlice P t = some e) : P.underlying t = some (.slice e) := by
  unfold elemOfSlice at h
  split at h
  · rename_i q; cases h; exact q
  · cases h

theorem run_buildSlice {t e n es : Nat} {v : Value} {parts : Array (Nat × Value)} {vs' : Array Value} (hu : P.underlying t = some (.slice e)) (hes : szOf P e = some es)
    (z1 : (zeroValue e).run P w = .ok v w) (hle : n * es ≤ 16777216) (key : Instr.fill (fun i => some (i * es, es)) ((Array.range (n * es)).map fun j => v.cells[j % v.cells.size]!) parts.toList = some vs') :
    (Instr.buildSlice t n parts).run P w = .ok (.slice (some ⟨w.heap.size, 0, none⟩) n n) (w.alloc (.cells vs' e)) := by
  simp only [Instr.buildSlice, Sem.run_bind, run_under hu, Result.andThen, run_size hes]
  generalize hm : n * es = m at hle key ⊢
  rw [if_neg (by simp; omega)]
  by_cases h0 : m = 0
  · subst h0
    have em : ∀ f : Nat → Value, (Array.range 0).map f = #[] := fun f => Array.eq_empty_of_size_eq_zero (by simp)
    rw [em] at key
    simp only [if_true, Sem.run_bind, Sem.run_pure, Result.andThen, em, key, run_newRow]
  · simp [h0, z1, key, run_newRow]

theorem buildSlice_ok {t n : Nat} {parts : Array (Nat × Operand)} (ho : o.op = .buildSlice t n parts) (hs : SR sy G cx ρ env loc a) (hd : DRel sy ρ st.dfs a.defers) (hw : WRel sy G B w0 ρ st w) :
    OpRes sy G B w0 P ρ a o w ((oBuildSlice P cx t n parts.toList).f call env loc st) := by
  unfold oBuildSlice
  cases he : elemOfSlice P t with
  | none => exact trivial
  | some e =>
    have hu := elemOfSlice_spec he
    cases hes : szOf P e with
    | none => simp only [hes]; exact trivial
    | some es =>
      cases hz : zeroOf P e with
      | none => simp only [hes, hz]; exact trivial
      | some z =>
        simp only [hes, hz]
        cases hc : (Nat.ble (Nat.mul n es) 16777216 && Nat.beq (len (cellsOf z)) es) with
        | false => exact trivial
        | true =>
          simp only [Bool.and_eq_true, Nat.beq_eq, len_eq] at hc
          have hc1 : n * es ≤ 16777216 := by have := hc.1; simpa [Nat.ble_eq] using this
          obtain ⟨v, z1, z2, z3, _⟩ := run_zero (sy := sy) hz w ρ
          simp only [cond_true]
          unfold buildSliceF
          simp only
          have hcs := cellsOf_rel z3 z2
          have hrep := repL_rel hcs n
          generalize hr : (fillF (fun i => some (Nat.mul i es, es)) cx parts.toList (len (repL (cellsOf z) n))).f (repL (cellsOf z) n) env loc (fun l => newRow l es ⟨none, true, false, true⟩ st fun b st => RV.ok (.slice b 0 n n false) st) = r
          rcases fill_rel hs hw parts.toList _ _ _ (len_eq _).symm hrep hr with ⟨k, rfl⟩ | ⟨cs', vs', rfl, h2, h3, h4⟩
          · exact trivial
          · refine newRow_ok h3 hw (arr := vs') (elem := e) rfl (fun _ h => by cases h) fun st1 hd1 hle hsame hw1 => ?_
            refine ok_val (v' := .slice (some ⟨w.heap.size, 0, none⟩) n n) (w' := w.alloc (.cells vs' e)) ?_ hle (by simp only [VRel]; exact ⟨_, hsame, by simp⟩) hw1 (by rw [hd1]; exact hd)
            have hzz : v.cells.size = es := by rw [← Array.length_toList, hcs.length]; exact hc.2
            have key : Instr.fill (fun i => some (i * es, es)) ((Array.range (n * es)).map fun j => v.cells[j % v.cells.size]!) (parts.map fun p => (p.1, a.eval p.2)).toList = some vs' := by
              rw [hc.2] at h4
              simpa using h4
            simp only [execOp, ho, Sem.run_bind, run_buildSlice hu hes z1 hc1 key, Result.andThen, Sem.run_pure]

theorem offOf_spec {t f d : Nat} (h : offOf P t f = some d) : ∃ (fs : Array Field) (x : Field) (i : TypeInfo), P.underlying t = some (.struct fs) ∧ fs[f]? = some x ∧ P.info? x.type = some i ∧ i.size ≠ 0 ∧ d = x.offset := by
  unfold offOf at h
  split at h
  · rename_i fs hu
    split at h
    · rename_i x hx
      split at h
      · rename_i i hi
        cases hb : Nat.beq i.size 0 with
        | true => rw [hb] at h; cases h
        | false =>
          rw [hb] at h
          cases h
          exact ⟨fs, x, i, hu, hx, hi, (fun e => by rw [e] at hb; cases hb), rfl⟩
      · cases h
    · cases h
  · cases h

theorem fieldAddr_ok {t f : Nat} {x : Operand} (ho : o.op = .fieldAddr t x f) (hs : SR sy G cx ρ env loc a) (hd : DRel sy ρ st.dfs a.defers) (hw : WRel sy G B w0 ρ st w) :
    OpRes sy G B w0 P ρ a o w ((oFieldAddr (offOf P t f) (ev cx x)).f call env loc st) := by
  unfold oFieldAddr
  cases hof : offOf P t f with
  | none => exact trivial
  | some d =>
    obtain ⟨fs, fl, i, h1, h2, h3, h4, rfl⟩ := offOf_spec hof
    have hx := evRel hs hw x
    simp only
    generalize (ev cx x).f env loc = v at *
    cases v <;> try exact trivial
    rename_i b ofs
    simp only [VRel] at hx
    obtain ⟨bi, hb, e⟩ := hx
    simp only [forceN_eq]
    refine pure_val (v' := .pointer (some ⟨bi.blk, ofs + fl.offset + bi.sh, none⟩)) ?_ hw hd (by simp only [VRel]; exact ⟨bi, hb, rfl⟩)
    have hsz : (sizeOf fl.type).run P w = .ok i.size w := by simp [sizeOf, run_info h3]
    simp only [execOp, ho, Instr.fieldAt, Sem.run_bind, run_under h1, Result.andThen, h2, e, Instr.sureAddr, fieldPlace, hsz, Sem.run_pure]
    rw [if_neg h4]
    simp [addr_add]

theorem asIntOf_int (k : IntKind) (n : Int) (w : World) : (asIntOf (.int k n)).run P w = .ok (k, n) w := rfl

theorem ixAddr_ok {es b ofs len : Nat} {v : CV} {x : Operand} {t : Nat} {xi : Operand} {u u' : Value} {bi : BI} (ho : o.op = .indexAddr t x xi) (hd : DRel sy ρ st.dfs a.defers) (hw : WRel sy G B w0 ρ st w)
    (hv : VRel sy ρ v (a.eval xi)) (hb : ρ b = some bi)
    (hrun : ∀ (k : IntKind) (n : Nat), a.eval xi = .int k n → n < len → (Instr.indexAt t (a.eval x) (a.eval xi)).run P w = .ok (.pointer (some ((⟨bi.blk, ofs + bi.sh, none⟩ : Addr).add (n * es)))) w) :
    OpRes sy G B w0 P ρ a o w (ixAddr es b ofs len v st) := by
  unfold ixAddr
  cases v <;> try exact trivial
  rename_i k n
  simp only [VRel] at hv
  cases n with
  | negSucc m => exact trivial
  | ofNat n =>
    simp only
    cases hc : Nat.blt n len with
    | false => exact trivial
    | true =>
      have hlt : n < len := by simpa [Nat.blt_eq] using hc
      simp only [cond_true, forceN_eq]
      refine pure_val (v' := .pointer (some ⟨bi.blk, ofs + n * es + bi.sh, none⟩)) ?_ hw hd (by simp only [VRel]; exact ⟨bi, hb, rfl⟩)
      have := hrun k n hv hlt
      simp only [execOp, ho, Sem.run_bind, this, Result.andThen, Sem.run_pure, addr_add]
      rw [show ofs + bi.sh + n * es = ofs + n * es + bi.sh by omega]

theorem indexAddr_ok {t : Nat} {x xi : Operand} (ho : o.op = .indexAddr t x xi) (hs : SR sy G cx ρ env loc a) (hd : DRel sy ρ st.dfs a.defers) (hw : WRel sy G B w0 ρ st w) :
    OpRes sy G B w0 P ρ a o w ((oIndexAddr P t (ev cx x) (ev cx xi)).f call env loc st) := by
  have hx := evRel hs hw x
  have hi := evRel hs hw xi
  unfold oIndexAddr
  cases hu : P.underlying t with
  | none => exact trivial
  | some d =>
    simp only
    cases d <;> try exact trivial
    · rename_i e
      cases hes : szOf P e with
      | none => simp only [hes]; exact trivial
      | some es =>
        simp only [hes]
        generalize (ev cx x).f env loc = v at *
        cases v <;> try exact trivial
        rename_i b ofs l c q
        simp only [VRel] at hx
        obtain ⟨bi, hb, eq⟩ := hx
        refine ixAddr_ok ho hd hw hi hb (u := undef) (u' := undef) fun k n hn hlt => ?_
        rw [hn, eq]
        simp [Instr.indexAt, asIntOf, run_under hu, run_size hes, hlt]
    · rename_i m e
      cases hes : szOf P e with
      | none => simp only [hes]; exact trivial
      | some es =>
        simp only [hes]
        generalize (ev cx x).f env loc = v at *
        cases v <;> try exact trivial
        rename_i b ofs
        simp only [VRel] at hx
        obtain ⟨bi, hb, eq⟩ := hx
        refine ixAddr_ok ho hd hw hi hb (u := undef) (u' := undef) fun k n hn hlt => ?_
        rw [hn, eq]
        simp [Instr.indexAt, asIntOf, run_under hu, run_size hes, Instr.sureAddr, hlt]

theorem index_ok {t : Nat} {x xi : Operand} (ho : o.op = .index t x xi) (hs : SR sy G cx ρ env loc a) (hd : DRel sy ρ st.dfs a.defers) (hw : WRel sy G B w0 ρ st w) :
    OpRes sy G B w0 P ρ a o w ((oIndex P t (ev cx x) (ev cx xi)).f call env loc st) := by
  have hx := evRel hs hw x
  have hi := evRel hs hw xi
  unfold oIndex
  cases hu : P.underlying t with
  | none => exact trivial
  | some d =>
    simp only
    cases d <;> try exact trivial
    simp only
    generalize (ev cx x).f env loc = v at *
    cases v <;> try exact trivial
    rename_i l n
    simp only
    generalize (ev cx xi).f env loc = u at *
    cases u <;> try exact trivial
    rename_i k m
    cases m with
    | negSucc m => exact trivial
    | ofNat m =>
      simp only [VRel] at hx hi
      simp only
      cases hc : Nat.blt m l with
      | false => exact trivial
      | true =>
        have hlt : m < l := by simpa [Nat.blt_eq] using hc
        simp only [cond_true, forceN_eq]
        refine pure_val (v' := .int .u8 (Int.ofNat (byteAt n m))) ?_ hw hd (by simp only [VRel])
        rw [← byteAt_eq]
        simp [execOp, ho, Instr.index, hx, hi, asIntOf, run_under hu, bytesOf_get hlt]
end
end Go.Proofs.YtbmbjaogcmokoaaGreatDoorX
