/- Part of a proof about the functions of this seat. -/
import Derived.Test.YtebejiilpedlmaaGreatDoorNvT
set_option linter.unusedVariables false
set_option linter.unusedSimpArgs false
/- Proved calls as a table: what an evaluation need not run again. -/
namespace Nv
open Go

def strB : List UInt8 → List UInt8 → Bool
  | [], [] => true
  | a :: l, b :: m => bif Nat.beq a.toNat b.toNat then strB l m else false
  | _, _ => false

theorem strB_eq : ∀ {l m : List UInt8}, strB l m = true → l = m
  | [], [], _ => rfl
  | [], _ :: _, h => by cases h
  | _ :: _, [], h => by cases h
  | a :: l, b :: m, h => by
    simp only [strB] at h
    cases hb : Nat.beq a.toNat b.toNat
    · rw [hb] at h; cases h
    · rw [hb] at h
      rw [UInt8.toNat_inj.mp (Nat.eq_of_beq_eq_true hb), strB_eq h]

mutual
def DV.eqb : DV → DV → Bool
  | .int k n, .int k' n' => bif decide (k = k') then decide (n = n') else false
  | .bool b, .bool b' => b == b'
  | .str s, .str s' => strB s s'
  | .nilptr, .nilptr => true
  | .nilslice, .nilslice => true
  | .nilmap, .nilmap => true
  | .nilfunc, .nilfunc => true
  | .niliface, .niliface => true
  | .list e xs, .list e' ys => bif Nat.beq e e' then DV.eqbs xs ys else false
  | .agg xs, .agg ys => DV.eqbs xs ys
  | _, _ => false
def DV.eqbs : List DV → List DV → Bool
  | [], [] => true
  | x :: xs, y :: ys => bif DV.eqb x y then DV.eqbs xs ys else false
  | _, _ => false
end

mutual
theorem DV.eqb_eq : ∀ {x y : DV}, DV.eqb x y = true → x = y
  | .int k n, y, h => by
    cases y <;> simp only [DV.eqb, cond_eq_ite, Bool.false_eq_true] at h
    split at h
    · rename_i h1; rw [of_decide_eq_true h1, of_decide_eq_true h]
    · cases h
  | .bool b, y, h => by cases y <;> simp only [DV.eqb, Bool.false_eq_true] at h; rw [eq_of_beq h]
  | .str s, y, h => by cases y <;> simp only [DV.eqb, Bool.false_eq_true] at h; rw [strB_eq h]
  | .nilptr, y, h => by cases y <;> simp only [DV.eqb, Bool.false_eq_true] at h; rfl
  | .nilslice, y, h => by cases y <;> simp only [DV.eqb, Bool.false_eq_true] at h; rfl
  | .nilmap, y, h => by cases y <;> simp only [DV.eqb, Bool.false_eq_true] at h; rfl
  | .nilfunc, y, h => by cases y <;> simp only [DV.eqb, Bool.false_eq_true] at h; rfl
  | .niliface, y, h => by cases y <;> simp only [DV.eqb, Bool.false_eq_true] at h; rfl
  | .func f, y, h => by cases y <;> simp only [DV.eqb, Bool.false_eq_true] at h
  | .iface t x, y, h => by cases y <;> simp only [DV.eqb, Bool.false_eq_true] at h
  | .list e xs, y, h => by
    cases y <;> simp only [DV.eqb, cond_eq_ite, Bool.false_eq_true] at h
    split at h
    · rename_i h1; rw [Nat.eq_of_beq_eq_true h1, DV.eqbs_eq h]
    · cases h
  | .agg xs, y, h => by cases y <;> simp only [DV.eqb, Bool.false_eq_true] at h; rw [DV.eqbs_eq h]
theorem DV.eqbs_eq : ∀ {x y : List DV}, DV.eqbs x y = true → x = y
  | [], [], _ => rfl
  | [], _ :: _, h => by simp only [DV.eqbs, Bool.false_eq_true] at h
  | _ :: _, [], h => by simp only [DV.eqbs, Bool.false_eq_true] at h
  | x :: xs, y :: ys, h => by
    simp only [DV.eqbs, cond_eq_ite] at h
    split at h
    · rename_i h1; rw [DV.eqb_eq h1, DV.eqbs_eq h]
    · cases h
end

mutual
def AV.eqb : AV → AV → Bool
  | .d x, .d y => DV.eqb x y
  | .agg xs, .agg ys => AV.eqbs xs ys
  | _, _ => false
def AV.eqbs : List AV → List AV → Bool
  | [], [] => true
  | x :: xs, y :: ys => bif AV.eqb x y then AV.eqbs xs ys else false
  | _, _ => false
end

mutual
theorem AV.eqb_eq : ∀ {x y : AV}, AV.eqb x y = true → x = y
  | .d x, y, h => by cases y <;> simp only [AV.eqb, Bool.false_eq_true] at h; rw [DV.eqb_eq h]
  | .agg xs, y, h => by cases y <;> simp only [AV.eqb, Bool.false_eq_true] at h; rw [AV.eqbs_eq h]
  | .any, y, h => by simp only [AV.eqb, Bool.false_eq_true] at h
  | .ptr _ _, y, h => by simp only [AV.eqb, Bool.false_eq_true] at h
  | .own _ _ _ _, y, h => by simp only [AV.eqb, Bool.false_eq_true] at h
  | .eptr _ _ _ _, y, h => by simp only [AV.eqb, Bool.false_eq_true] at h
  | .iptr _, y, h => by simp only [AV.eqb, Bool.false_eq_true] at h
  | .aptr, y, h => by simp only [AV.eqb, Bool.false_eq_true] at h
  | .tuple _, y, h => by simp only [AV.eqb, Bool.false_eq_true] at h
  | .func _ _ _, y, h => by simp only [AV.eqb, Bool.false_eq_true] at h
  | .iface _ _, y, h => by simp only [AV.eqb, Bool.false_eq_true] at h
  | .map _, y, h => by simp only [AV.eqb, Bool.false_eq_true] at h
  | .itr _, y, h => by simp only [AV.eqb, Bool.false_eq_true] at h
theorem AV.eqbs_eq : ∀ {x y : List AV}, AV.eqbs x y = true → x = y
  | [], [], _ => rfl
  | [], _ :: _, h => by simp only [AV.eqbs, Bool.false_eq_true] at h
  | _ :: _, [], h => by simp only [AV.eqbs, Bool.false_eq_true] at h
  | x :: xs, y :: ys, h => by
    simp only [AV.eqbs, cond_eq_ite] at h
    split at h
    · rename_i h1; rw [AV.eqb_eq h1, AV.eqbs_eq h]
    · cases h
end

structure Known where
  f : Nat
  args : List AV
  r : AV

def findK (g : Nat) (args : List AV) : List Known → Option AV
  | [] => none
  | k :: l => bif Nat.beq k.f g then bif AV.eqbs k.args args then some k.r else findK g args l else findK g args l

def Eenv.know (E : Eenv) (l : List Known) : Eenv := ⟨E.tab, fun g args => match findK g args l with
  | some v => some v
  | none => E.spec g args, E.esc⟩

def AllK (P : Program) : List Known → Prop
  | [] => True
  | k :: l => (PCall P k.f k.args k.r ∧ plainFn P k.f = true) ∧ AllK P l

theorem findK_sound {P : Program} {g : Nat} {args : List AV} {r : AV} : ∀ {l : List Known}, AllK P l → findK g args l = some r → PCall P g args r ∧ plainFn P g = true
  | [], _, h => by cases h
  | k :: l, ⟨h1, h2⟩, h => by
    simp only [findK, cond_eq_ite] at h
    split at h
    · rename_i hg
      have hg := Nat.eq_of_beq_eq_true hg
      split at h
      · rename_i ha
        have ha := AV.eqbs_eq ha
        cases h; subst hg; subst ha; exact h1
      · exact findK_sound h2 h
    · exact findK_sound h2 h

theorem EnvOK.know {P : Program} {E : Eenv} (h : EnvOK P E) {l : List Known} (hl : AllK P l) : EnvOK P (E.know l) := by
  refine ⟨h.tab, fun g args r hr => ?_, h.esc⟩
  simp only [Eenv.know] at hr
  split at hr
  · rename_i v hv
    cases hr
    exact findK_sound hl hv
  · exact h.spec g args r hr
end Nv
