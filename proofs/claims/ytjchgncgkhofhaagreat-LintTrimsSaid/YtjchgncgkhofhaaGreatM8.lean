/- The table of types of this seat's translation, as the A-logic reads it: it is what the loaded program says. -/
import Derived.Test.YtjchgncgkhofhaaGreatM0
import Derived.Test.YtjchgncgkhofhaaGreatProg
import Derived.KernelRfl
import Derived.Test.YtjchgncgkhofhaaGreatM7
import Derived.Laws.Runes
namespace Go.Proofs.YtjchgncgkhofhaaGreat.AL
open Go
def Tl : List TI := [
  ⟨.other, 1, 0, none, none⟩,
  ⟨.func, 1, 8, some [.nilFunc], none⟩,
  ⟨.int .i64, 1, 8, some [.int .i64 0], some [.int .i64]⟩,
  ⟨.int .i64, 1, 8, some [.int .i64 0], some [.int .i64]⟩,
  ⟨.bool, 1, 1, some [.bool false], some [.bool]⟩,
  ⟨.int .u8, 1, 1, some [.int .u8 0], some [.int .u8]⟩,
  ⟨.int .u8, 1, 1, some [.int .u8 0], some [.int .u8]⟩,
  ⟨.struct [(0, 2), (1, 3), (2, 4), (3, 6)], 4, 24, some [.int .i64 0, .int .i64 0, .bool false, .int .u8 0], some [.int .i64, .int .i64, .bool, .int .u8]⟩,
  ⟨.struct [(0, 2), (1, 3), (2, 4), (3, 6)], 4, 24, some [.int .i64 0, .int .i64 0, .bool false, .int .u8 0], some [.int .i64, .int .i64, .bool, .int .u8]⟩,
  ⟨.str, 1, 16, some [.string ⟨#[]⟩], some [.str]⟩,
  ⟨.str, 1, 16, some [.string ⟨#[]⟩], some [.str]⟩,
  ⟨.str, 1, 16, some [.string ⟨#[]⟩], some [.str]⟩,
  ⟨.int .u64, 1, 8, some [.int .u64 0], some [.int .u64]⟩,
  ⟨.struct [(0, 9), (1, 12)], 2, 24, some [.string ⟨#[]⟩, .int .u64 0], none⟩,
  ⟨.struct [(0, 9), (1, 12)], 2, 24, some [.string ⟨#[]⟩, .int .u64 0], none⟩,
  ⟨.ptr 146, 1, 8, some [.pointer none], none⟩,
  ⟨.ptr 149, 1, 8, some [.pointer none], none⟩,
  ⟨.ptr 159, 1, 8, some [.pointer none], none⟩,
  ⟨.struct [(0, 17)], 1, 8, some [.pointer none], none⟩,
  ⟨.struct [(0, 17)], 1, 8, some [.pointer none], none⟩,
  ⟨.other, 1, 16, some [.nilIface], none⟩,
  ⟨.int .i32, 1, 4, some [.int .i32 0], some [.int .i32]⟩,
  ⟨.slice 37, 1, 24, some [.slice none 0 0], none⟩,
  ⟨.struct [(0, 22)], 1, 24, some [.slice none 0 0], none⟩,
  ⟨.struct [(0, 22)], 1, 24, some [.slice none 0 0], none⟩,
  ⟨.func, 1, 8, some [.nilFunc], none⟩,
  ⟨.slice 29, 1, 24, some [.slice none 0 0], none⟩,
  ⟨.func, 1, 8, some [.nilFunc], none⟩,
  ⟨.struct [(0, 3), (1, 3), (2, 3), (3, 3), (4, 9)], 5, 48, some [.int .i64 0, .int .i64 0, .int .i64 0, .int .i64 0, .string ⟨#[]⟩], some [.int .i64, .int .i64, .int .i64, .int .i64, .str]⟩,
  ⟨.struct [(0, 3), (1, 3), (2, 3), (3, 3), (4, 9)], 5, 48, some [.int .i64 0, .int .i64 0, .int .i64 0, .int .i64 0, .string ⟨#[]⟩], some [.int .i64, .int .i64, .int .i64, .int .i64, .str]⟩,
  ⟨.func, 1, 8, some [.nilFunc], none⟩,
  ⟨.func, 1, 8, some [.nilFunc], none⟩,
  ⟨.slice 44, 1, 24, some [.slice none 0 0], none⟩,
  ⟨.struct [(0, 9), (1, 32), (2, 3)], 3, 48, some [.string ⟨#[]⟩, .slice none 0 0, .int .i64 0], none⟩,
  ⟨.struct [(0, 9), (1, 32), (2, 3)], 3, 48, some [.string ⟨#[]⟩, .slice none 0 0, .int .i64 0], none⟩,
  ⟨.slice 46, 1, 24, some [.slice none 0 0], none⟩,
  ⟨.struct [(0, 34), (3, 35)], 4, 72, some [.string ⟨#[]⟩, .slice none 0 0, .int .i64 0, .slice none 0 0], none⟩,
  ⟨.struct [(0, 34), (3, 35)], 4, 72, some [.string ⟨#[]⟩, .slice none 0 0, .int .i64 0, .slice none 0 0], none⟩,
  ⟨.func, 1, 8, some [.nilFunc], none⟩,
  ⟨.int .i64, 1, 8, some [.int .i64 0], some [.int .i64]⟩,
  ⟨.func, 1, 8, some [.nilFunc], none⟩,
  ⟨.func, 1, 8, some [.nilFunc], none⟩,
  ⟨.func, 1, 8, some [.nilFunc], none⟩,
  ⟨.struct [(0, 3), (1, 2), (2, 9), (3, 3)], 4, 40, some [.int .i64 0, .int .i64 0, .string ⟨#[]⟩, .int .i64 0], some [.int .i64, .int .i64, .str, .int .i64]⟩,
  ⟨.struct [(0, 3), (1, 2), (2, 9), (3, 3)], 4, 40, some [.int .i64 0, .int .i64 0, .string ⟨#[]⟩, .int .i64 0], some [.int .i64, .int .i64, .str, .int .i64]⟩,
  ⟨.struct [(0, 3), (1, 34), (4, 3), (5, 44), (9, 44), (13, 3)], 14, 152, some [.int .i64 0, .string ⟨#[]⟩, .slice none 0 0, .int .i64 0, .int .i64 0, .int .i64 0, .int .i64 0, .string ⟨#[]⟩, .int .i64 0, .int .i64 0, .int .i64 0, .string ⟨#[]⟩, .int .i64 0, .int .i64 0], none⟩,
  ⟨.struct [(0, 3), (1, 34), (4, 3), (5, 44), (9, 44), (13, 3)], 14, 152, some [.int .i64 0, .string ⟨#[]⟩, .slice none 0 0, .int .i64 0, .int .i64 0, .int .i64 0, .int .i64 0, .string ⟨#[]⟩, .int .i64 0, .int .i64 0, .int .i64 0, .string ⟨#[]⟩, .int .i64 0, .int .i64 0], none⟩,
  ⟨.func, 1, 8, some [.nilFunc], none⟩,
  ⟨.func, 1, 8, some [.nilFunc], none⟩,
  ⟨.func, 1, 8, some [.nilFunc], none⟩,
  ⟨.map 9 3, 1, 8, some [.map none], none⟩,
  ⟨.func, 1, 8, some [.nilFunc], none⟩,
  ⟨.other, 1, 0, none, none⟩,
  ⟨.func, 1, 8, some [.nilFunc], none⟩,
  ⟨.func, 1, 8, some [.nilFunc], none⟩,
  ⟨.func, 1, 8, some [.nilFunc], none⟩,
  ⟨.func, 1, 8, some [.nilFunc], none⟩,
  ⟨.func, 1, 8, some [.nilFunc], none⟩,
  ⟨.func, 1, 8, some [.nilFunc], none⟩,
  ⟨.func, 1, 8, some [.nilFunc], none⟩,
  ⟨.func, 1, 8, some [.nilFunc], none⟩,
  ⟨.func, 1, 8, some [.nilFunc], none⟩,
  ⟨.struct [(0, 3), (1, 2), (2, 9)], 3, 32, some [.int .i64 0, .int .i64 0, .string ⟨#[]⟩], some [.int .i64, .int .i64, .str]⟩,
  ⟨.struct [(0, 3), (1, 2), (2, 9)], 3, 32, some [.int .i64 0, .int .i64 0, .string ⟨#[]⟩], some [.int .i64, .int .i64, .str]⟩,
  ⟨.other, 1, 0, none, none⟩,
  ⟨.func, 1, 8, some [.nilFunc], none⟩,
  ⟨.func, 1, 8, some [.nilFunc], none⟩,
  ⟨.func, 1, 8, some [.nilFunc], none⟩,
  ⟨.func, 1, 8, some [.nilFunc], none⟩,
  ⟨.func, 1, 8, some [.nilFunc], none⟩,
  ⟨.func, 1, 8, some [.nilFunc], none⟩,
  ⟨.func, 1, 8, some [.nilFunc], none⟩,
  ⟨.func, 1, 8, some [.nilFunc], none⟩,
  ⟨.func, 1, 8, some [.nilFunc], none⟩,
  ⟨.func, 1, 8, some [.nilFunc], none⟩,
  ⟨.func, 1, 8, some [.nilFunc], none⟩,
  ⟨.slice 84, 1, 24, some [.slice none 0 0], none⟩,
  ⟨.func, 1, 8, some [.nilFunc], none⟩,
  ⟨.slice 88, 1, 24, some [.slice none 0 0], none⟩,
  ⟨.slice 88, 1, 24, some [.slice none 0 0], none⟩,
  ⟨.other, 1, 0, none, none⟩,
  ⟨.func, 1, 8, some [.nilFunc], none⟩,
  ⟨.slice 86, 1, 24, some [.slice none 0 0], none⟩,
  ⟨.struct [(0, 3), (1, 9), (2, 3), (3, 82)], 4, 56, some [.int .i64 0, .string ⟨#[]⟩, .int .i64 0, .slice none 0 0], none⟩,
  ⟨.struct [(0, 3), (1, 9), (2, 3), (3, 82)], 4, 56, some [.int .i64 0, .string ⟨#[]⟩, .int .i64 0, .slice none 0 0], none⟩,
  ⟨.struct [(0, 3), (1, 2), (2, 9), (3, 3)], 4, 40, some [.int .i64 0, .int .i64 0, .string ⟨#[]⟩, .int .i64 0], some [.int .i64, .int .i64, .str, .int .i64]⟩,
  ⟨.struct [(0, 3), (1, 2), (2, 9), (3, 3)], 4, 40, some [.int .i64 0, .int .i64 0, .string ⟨#[]⟩, .int .i64 0], some [.int .i64, .int .i64, .str, .int .i64]⟩,
  ⟨.struct [(0, 86), (4, 86)], 8, 80, some [.int .i64 0, .int .i64 0, .string ⟨#[]⟩, .int .i64 0, .int .i64 0, .int .i64 0, .string ⟨#[]⟩, .int .i64 0], some [.int .i64, .int .i64, .str, .int .i64, .int .i64, .int .i64, .str, .int .i64]⟩,
  ⟨.struct [(0, 86), (4, 86)], 8, 80, some [.int .i64 0, .int .i64 0, .string ⟨#[]⟩, .int .i64 0, .int .i64 0, .int .i64 0, .string ⟨#[]⟩, .int .i64 0], some [.int .i64, .int .i64, .str, .int .i64, .int .i64, .int .i64, .str, .int .i64]⟩,
  ⟨.func, 1, 8, some [.nilFunc], none⟩,
  ⟨.func, 1, 8, some [.nilFunc], none⟩,
  ⟨.func, 1, 8, some [.nilFunc], none⟩,
  ⟨.func, 1, 8, some [.nilFunc], none⟩,
  ⟨.func, 1, 8, some [.nilFunc], none⟩,
  ⟨.func, 1, 8, some [.nilFunc], none⟩,
  ⟨.func, 1, 8, some [.nilFunc], none⟩,
  ⟨.func, 1, 8, some [.nilFunc], none⟩,
  ⟨.slice 123, 1, 24, some [.slice none 0 0], none⟩,
  ⟨.func, 1, 8, some [.nilFunc], none⟩,
  ⟨.ptr 3, 1, 8, some [.pointer none], none⟩,
  ⟨.slice 97, 1, 24, some [.slice none 0 0], none⟩,
  ⟨.func, 1, 8, some [.nilFunc], none⟩,
  ⟨.map 9 123, 1, 8, some [.map none], none⟩,
  ⟨.map 9 123, 1, 8, some [.map none], none⟩,
  ⟨.slice 9, 1, 24, some [.slice none 0 0], none⟩,
  ⟨.other, 1, 0, none, none⟩,
  ⟨.func, 1, 8, some [.nilFunc], none⟩,
  ⟨.func, 1, 8, some [.nilFunc], none⟩,
  ⟨.func, 1, 8, some [.nilFunc], none⟩,
  ⟨.func, 1, 8, some [.nilFunc], none⟩,
  ⟨.func, 1, 8, some [.nilFunc], none⟩,
  ⟨.other, 1, 0, none, none⟩,
  ⟨.func, 1, 8, some [.nilFunc], none⟩,
  ⟨.func, 1, 8, some [.nilFunc], none⟩,
  ⟨.other, 1, 0, none, none⟩,
  ⟨.func, 1, 8, some [.nilFunc], none⟩,
  ⟨.func, 1, 8, some [.nilFunc], none⟩,
  ⟨.func, 1, 8, some [.nilFunc], none⟩,
  ⟨.slice 79, 1, 24, some [.slice none 0 0], none⟩,
  ⟨.func, 1, 8, some [.nilFunc], none⟩,
  ⟨.func, 1, 8, some [.nilFunc], none⟩,
  ⟨.func, 1, 8, some [.nilFunc], none⟩,
  ⟨.struct [(0, 3), (1, 2), (2, 9), (3, 3)], 4, 40, some [.int .i64 0, .int .i64 0, .string ⟨#[]⟩, .int .i64 0], some [.int .i64, .int .i64, .str, .int .i64]⟩,
  ⟨.struct [(0, 3), (1, 2), (2, 9), (3, 3)], 4, 40, some [.int .i64 0, .int .i64 0, .string ⟨#[]⟩, .int .i64 0], some [.int .i64, .int .i64, .str, .int .i64]⟩,
  ⟨.other, 1, 0, none, none⟩,
  ⟨.func, 1, 8, some [.nilFunc], none⟩,
  ⟨.func, 1, 8, some [.nilFunc], none⟩,
  ⟨.func, 1, 8, some [.nilFunc], none⟩,
  ⟨.func, 1, 8, some [.nilFunc], none⟩,
  ⟨.func, 1, 8, some [.nilFunc], none⟩,
  ⟨.func, 1, 8, some [.nilFunc], none⟩,
  ⟨.func, 1, 8, some [.nilFunc], none⟩,
  ⟨.func, 1, 8, some [.nilFunc], none⟩,
  ⟨.func, 1, 8, some [.nilFunc], none⟩,
  ⟨.func, 1, 8, some [.nilFunc], none⟩,
  ⟨.func, 1, 8, some [.nilFunc], none⟩,
  ⟨.slice 3, 1, 24, some [.slice none 0 0], none⟩,
  ⟨.func, 1, 8, some [.nilFunc], none⟩,
  ⟨.func, 1, 8, some [.nilFunc], none⟩,
  ⟨.func, 1, 8, some [.nilFunc], none⟩,
  ⟨.func, 1, 8, some [.nilFunc], none⟩,
  ⟨.slice 5, 1, 24, some [.slice none 0 0], none⟩,
  ⟨.func, 1, 8, some [.nilFunc], none⟩,
  ⟨.func, 1, 8, some [.nilFunc], none⟩,
  ⟨.func, 1, 8, some [.nilFunc], none⟩,
  ⟨.struct [(0, 17), (1, 17), (2, 17), (3, 9)], 4, 40, some [.pointer none, .pointer none, .pointer none, .string ⟨#[]⟩], none⟩,
  ⟨.struct [(0, 17), (1, 17), (2, 17), (3, 9)], 4, 40, some [.pointer none, .pointer none, .pointer none, .string ⟨#[]⟩], none⟩,
  ⟨.arr 0 16, 0, 0, some [], none⟩,
  ⟨.struct [(0, 147)], 0, 0, some [], none⟩,
  ⟨.struct [(0, 147)], 0, 0, some [], none⟩,
  ⟨.func, 1, 8, some [.nilFunc], none⟩,
  ⟨.int .u32, 1, 4, some [.int .u32 0], some [.int .u32]⟩,
  ⟨.int .u8, 1, 1, some [.int .u8 0], some [.int .u8]⟩,
  ⟨.int .u8, 1, 1, some [.int .u8 0], some [.int .u8]⟩,
  ⟨.func, 1, 8, some [.nilFunc], none⟩,
  ⟨.ptr 5, 1, 8, some [.pointer none], none⟩,
  ⟨.int .i32, 1, 4, some [.int .i32 0], some [.int .i32]⟩,
  ⟨.int .i32, 1, 4, some [.int .i32 0], some [.int .i32]⟩,
  ⟨.struct [(0, 12), (1, 12), (2, 151), (3, 152), (4, 5), (5, 5), (6, 153), (7, 154), (8, 155), (9, 156), (10, 157)], 11, 48, some [.int .u64 0, .int .u64 0, .int .u32 0, .int .u8 0, .int .u8 0, .int .u8 0, .int .u8 0, .nilFunc, .pointer none, .int .i32 0, .int .i32 0], none⟩,
  ⟨.struct [(0, 12), (1, 12), (2, 151), (3, 152), (4, 5), (5, 5), (6, 153), (7, 154), (8, 155), (9, 156), (10, 157)], 11, 48, some [.int .u64 0, .int .u64 0, .int .u32 0, .int .u8 0, .int .u8 0, .int .u8 0, .int .u8 0, .nilFunc, .pointer none, .int .i32 0, .int .i32 0], none⟩,
  ⟨.other, 1, 8, some [.pointer none], none⟩]

def TT (t : Nat) : TI := Tl.getD t ⟨.other, 0, 0, none, none⟩
theorem Tl_ok : (List.range (Go.Proofs.Tryz.prog.types.size)).map (tyOf Go.Proofs.Tryz.prog) = Tl := by kernel_rfl
theorem get_range (f : Nat → TI) (n t : Nat) (l : List TI) (h : (List.range n).map f = l) (d : TI) : l.getD t d = f t ∨ l.getD t d = d := by
  subst h
  rcases Nat.lt_or_ge t n with h | h
  · left; simp [List.getD_eq_getElem?_getD, h]
  · right; simp [List.getD_eq_getElem?_getD, h]
theorem TT_ok (t : Nat) : TT t = tyOf Go.Proofs.Tryz.prog t ∨ TT t = ⟨.other, 0, 0, none, none⟩ := get_range _ _ t Tl Tl_ok _
end Go.Proofs.YtjchgncgkhofhaaGreat.AL
/- The A-logic at this seat's program. -/
set_option linter.unusedVariables false
namespace Go.Proofs.YtjchgncgkhofhaaGreat.AL
open Go

noncomputable abbrev prg : Program := Go.Proofs.Tryz.prog
/-- The evaluation of one function: which boxes escape (esc), which are loaded from with the right to append out of shared ones (ob). -/
noncomputable def En (esc ob : Nat → Bool) (oa ro : Nat → Bool) : Env := { T := TT, esc, oa, ro, ob, C := fun g args gs K => PlainFn prg g ∧ CallOk prg g args gs K }
theorem En_ok (esc ob oa ro : Nat → Bool) : EnvOk prg (En esc ob oa ro) := ⟨TT_ok, fun _ _ _ _ h => h⟩
theorem mixed : prg.follows .mixedOrders = true := by kernel_rfl

/-- Slots told in a list. -/
def inl (l : List Nat) (d : Nat) : Bool := match l with | [] => false | x :: r => (match Nat.beq x d with | true => true | false => inl r d)

/-! ### States told in lists -/
def ofL : List (Nat × AV) → Nat → AV
  | [], _ => .undef
  | (k, x) :: r, t => match Nat.beq k t with | true => x | false => ofL r t
def ofB : List (Nat × AObj) → Nat → AObj
  | [], _ => .dead
  | (k, x) :: r, t => match Nat.beq k t with | true => x | false => ofB r t
def St (l : List (Nat × AV)) (b : List (Nat × AObj)) (gs : List AObj) : ASt := ⟨ofL l, ⟨ofB b, gs⟩⟩
def wkl (f : Nat → AV) : List (Nat × AV) → Prop
  | [] => True
  | (t, x) :: r => avle (f t) x ∧ wkl f r
def wkb (bx : Nat → AObj) : List (Nat × AObj) → Prop
  | [] => True
  | (p, o) :: r => oble (bx p) o ∧ wkb bx r
def ptrs (b : Nat → AObj) : List (Nat × AV) → Prop
  | [] => True
  | (_, x) :: r => (match x with | .pp (.loc q) _ => alive (b q) | .mp (.loc q) => alive (b q) | _ => True) ∧ ptrs b r
theorem ofL_cases (l : List (Nat × AV)) (t : Nat) : ofL l t = .undef ∨ (t, ofL l t) ∈ l := by
  induction l with
  | nil => exact .inl rfl
  | cons p r ih =>
    obtain ⟨k, x⟩ := p
    simp only [ofL]
    cases h : Nat.beq k t with
    | true => have := Nat.eq_of_beq_eq_true h; subst this; right; simp
    | false => simp only; rcases ih with e | e
               · exact .inl e
               · right; simp [e]
theorem ofB_cases (l : List (Nat × AObj)) (t : Nat) : ofB l t = .dead ∨ (t, ofB l t) ∈ l := by
  induction l with
  | nil => exact .inl rfl
  | cons p r ih =>
    obtain ⟨k, x⟩ := p
    simp only [ofB]
    cases h : Nat.beq k t with
    | true => have := Nat.eq_of_beq_eq_true h; subst this; right; simp
    | false => simp only; rcases ih with e | e
               · exact .inl e
               · right; simp [e]
theorem wkl_mem {f : Nat → AV} : ∀ (l : List (Nat × AV)), wkl f l → ∀ p ∈ l, avle (f p.1) p.2
  | [], _, p, h => by cases h
  | q :: l, hw, p, h => by
    rcases List.mem_cons.1 h with rfl | h
    · exact hw.1
    · exact wkl_mem l hw.2 p h
theorem wkb_mem {f : Nat → AObj} : ∀ (l : List (Nat × AObj)), wkb f l → ∀ p ∈ l, oble (f p.1) p.2
  | [], _, p, h => by cases h
  | q :: l, hw, p, h => by
    rcases List.mem_cons.1 h with rfl | h
    · exact hw.1
    · exact wkb_mem l hw.2 p h
theorem ptrs_mem {b : Nat → AObj} : ∀ (l : List (Nat × AV)), ptrs b l → ∀ t x, (t, x) ∈ l → ∀ q, ((∃ off, x = .pp (.loc q) off) ∨ x = .mp (.loc q)) → alive (b q)
  | [], _, _, _, h => by cases h
  | p :: l, hw, t, x, h => by
    rcases List.mem_cons.1 h with rfl | h
    · rintro q (⟨off, rfl⟩ | rfl)
      · exact hw.1
      · exact hw.1
    · exact ptrs_mem l hw.2 t x h
theorem avle_refl (x : AV) : avle x x := .inr (.inl rfl)
theorem avle_nil (b : Bool) (es : Nat) : avle (.sc (.slice none 0 0)) (.vec b es 0 []) := .inr (.inr (.inr ⟨rfl, b, es, rfl⟩))
theorem avle_dm (b : Bool) (es n : Nat) (cs : List AV) : avle (.vec b es n cs) (.vec false es n cs) := .inr (.inr (.inl rfl))
theorem avle_undef (x : AV) : avle x .undef := .inl rfl
theorem oble_refl (o : AObj) : oble o o := by
  cases o with
  | dead => trivial
  | cells v cs => exact ⟨rfl, rfl, fun i x y h1 h2 => by rw [h1] at h2; injection h2 with h2; subst h2; exact avle_refl _⟩
  | map es => rfl
def avleL : List AV → List AV → Prop
  | [], [] => True
  | x :: xs, y :: ys => avle x y ∧ avleL xs ys
  | _, _ => False
theorem oble_cells {v : Nat} : ∀ {cs cs' : List AV}, avleL cs cs' → oble (.cells v cs) (.cells v cs')
  | [], [], _ => ⟨rfl, rfl, fun i x y h => by simp at h⟩
  | x :: xs, y :: ys, h => by
    obtain ⟨_, h2, h3⟩ := oble_cells (v := v) h.2
    refine ⟨rfl, by simp [h2], fun i a b ha hb => ?_⟩
    cases i with
    | zero => simp at ha hb; subst ha; subst hb; exact h.1
    | succ i => exact h3 i a b (by simpa using ha) (by simpa using hb)
  | [], _ :: _, h => h.elim
  | _ :: _, [], h => h.elim
theorem wk_of {st : ASt} {l : List (Nat × AV)} {b : List (Nat × AObj)} {gs : List AObj} (h1 : wkl st.f l) (h2 : wkb st.m.bx b) (h3 : st.m.gs = gs) (h4 : ptrs (ofB b) l) : wk st (St l b gs) := by
  refine ⟨fun t => ?_, fun p => ?_, ?_, fun i o o0 k1 k2 => ?_, fun t q hq => ?_⟩
  · rcases ofL_cases l t with e | e
    · exact .inl e
    · exact wkl_mem l h1 _ e
  · show oble _ (ofB b p)
    rcases ofB_cases b p with e | e
    · rw [e]; cases st.m.bx p <;> trivial
    · exact wkb_mem b h2 _ e
  · show gs.length = _; rw [h3]
  · have : gs[i]? = some o0 := k2
    rw [← h3, k1] at this; injection this with this; subst this; exact oble_refl o
  · rcases ofL_cases l t with e | e
    · have e' : (St l b gs).f t = .undef := e
      rcases hq with ⟨off, hq⟩ | hq <;> rw [e'] at hq <;> cases hq
    · exact ptrs_mem l h4 t _ e q hq
end Go.Proofs.YtjchgncgkhofhaaGreat.AL
/- The A-logic at this seat's program: small helps for the functions' proofs. -/
set_option linter.unusedVariables false
namespace Go.Proofs.YtjchgncgkhofhaaGreat.AL
open Go
/-- The plain evaluation: no box escapes, all calls leave shared objects alone. -/
noncomputable abbrev E0 : Env := En (fun _ => false) (fun _ => false) (fun _ => false) (fun _ => true)
/-- A call that touches no shared object answers this. -/
def POk (g : FuncId) (args : List AV) (r : AV) : Prop := PlainFn prg g ∧ CallOk prg g args [] fun v _ => nr v = true ∧ v = r
theorem use_pure {g : FuncId} {args : List AV} {r : AV} {gs : List AObj} {K : AV → List AObj → Prop} (h : POk g args r) (ha : nrL args = true) (hk : K r gs) : PlainFn prg g ∧ CallOk prg g args gs K :=
  ⟨h.1, (CallOk.lift (Q := fun v => v = r) ha h.2 gs).mono fun v gs' e => by obtain ⟨e1, e2⟩ := e; subst e1; subst e2; exact hk⟩
/-- The same in a region whose order is drawn. -/
theorem use_ex {g : FuncId} {args : List AV} {r : AV} {gs : List AObj} {K : AV → List AObj → Prop} (h : POk g args r) (ha : nrL args = true) (hk : K r gs) : ∃ v gs', (PlainFn prg g ∧ CallOk prg g args gs fun a b => a = v ∧ b = gs') ∧ K v gs' :=
  ⟨r, gs, use_pure h ha ⟨rfl, rfl⟩, hk⟩
theorem CallOk.wkV {P : Program} {g : FuncId} {args : List AV} {gs : List AObj} {Q Q' : AV → List AObj → Prop} (h : CallOk P g args gs Q) (hq : ∀ v gs', Q v gs' → ∃ b es n cs, avle v (.vec b es n cs) ∧ Q' (.vec b es n cs) gs') : CallOk P g args gs Q' := by
  intro w G ow L vs hl hr
  refine (h w G ow L vs hl hr).mono fun e w' ⟨v, av, gs', G', ow', L', h1, h2, h3, h4⟩ => ?_
  obtain ⟨b, es, n, cs, k1, k2⟩ := hq _ _ h2
  have hv : ∀ t, resF (.vec b es n cs) t = .vec b es n cs ∨ resF (.vec b es n cs) t = .undef := by
    intro t; unfold resF upd; split
    · exact .inl rfl
    · exact .inr rfl
  refine ⟨v, _, gs', G', ow', L', h1, k2, HRel.weaken (st := ⟨resF av, deadM gs'⟩) (st0 := ⟨resF (.vec b es n cs), deadM gs'⟩) ⟨fun t => ?_, fun p => trivial, rfl, fun i o o0 e1 e2 => ?_, fun t q hq => ?_⟩ h3, h4⟩
  · show avle (resF av t) (resF _ t)
    unfold resF upd; split
    · exact k1
    · exact .inl rfl
  · have e1 : gs'[i]? = some o := e1
    have e2 : gs'[i]? = some o0 := e2
    rw [e1] at e2; injection e2 with e2; subst e2; exact oble_refl o
  · rcases hq with ⟨off, hq⟩ | hq
    · have hq : resF (.vec b es n cs) t = .pp (.loc q) off := hq
      rcases hv t with e | e <;> rw [e] at hq <;> cases hq
    · have hq : resF (.vec b es n cs) t = .mp (.loc q) := hq
      rcases hv t with e | e <;> rw [e] at hq <;> cases hq
/-- A call that answers a slice, told as less. -/
def POkV (g : FuncId) (args : List AV) (b : Bool) (es n : Nat) (cs : List AV) : Prop := PlainFn prg g ∧ CallOk prg g args [] fun v _ => avle v (.vec b es n cs)
theorem POk.of_v {g : FuncId} {args : List AV} {b : Bool} {es n : Nat} {cs : List AV} (h : POkV g args b es n cs) (hn : nrL cs = true) : POk g args (.vec b es n cs) :=
  ⟨h.1, h.2.wkV fun v gs' e => ⟨b, es, n, cs, e, hn, rfl⟩⟩
theorem avle_dm' {b : Bool} {es n : Nat} {cs : List AV} : avle (.vec b es n cs) (.vec false es n cs) := .inr (.inr (.inl rfl))
theorem avle_eq {x y : AV} (h : y = x) : avle x y := .inr (.inl h)
theorem avle_int {k : IntKind} {a b : Int} (h : a = b) : avle (.sc (.int k a)) (.sc (.int k b)) := avle_eq (by rw [h])
theorem get_byte {s : ByteArray} {i : Nat} (h : i < s.toList.length) : s[i]? = some s.toList[i] := by
  have h2 : i < s.data.size := by rw [ByteArray.toList_eq] at h; simpa using h
  have hget : s.toList[i] = s.data[i] := by
    have : s.toList[i]? = s.data.toList[i]? := by rw [ByteArray.toList_eq]
    rw [List.getElem?_eq_getElem h, List.getElem?_eq_getElem (by simpa using h2)] at this
    simpa using this
  rw [hget]
  exact getElem?_pos s i h2
end Go.Proofs.YtjchgncgkhofhaaGreat.AL
/- The program's functions in abstract words: bytes and names. -/
set_option linter.unusedVariables false
namespace Go.Proofs.YtjchgncgkhofhaaGreat.AL
open Go
attribute [local irreducible] PlainFn CallOk

def lowerP (b : Int) : Bool := decide (97 ≤ b) && decide (b ≤ 122)
def upperP (b : Int) : Bool := decide (65 ≤ b) && decide (b ≤ 90)
def digitP (b : Int) : Bool := decide (48 ≤ b) && decide (b ≤ 57)
theorem ok92 (b : Int) : POk 92 [.sc (.int .u8 b)] (.sc (.bool (lowerP b))) := by
  refine fn_ok mixed (En_ok _ _ _ _) (pl := fun _ => []) (fn := Go.Proofs.Tryz.f92) (c := _) (by kernel_rfl) rfl (by decide) (by kernel_rfl) (E := E0) ?_
  conv => whnf
  split
  · conv => whnf
    refine ⟨rfl, ?_⟩
    simp_all [lowerP] <;> omega
  · conv => whnf
    refine ⟨rfl, ?_⟩
    simp_all [lowerP] <;> omega
theorem ok108 (b : Int) : POk 108 [.sc (.int .u8 b)] (.sc (.bool (upperP b))) := by
  refine fn_ok mixed (En_ok _ _ _ _) (pl := fun _ => []) (fn := Go.Proofs.Tryz.f108) (c := _) (by kernel_rfl) rfl (by decide) (by kernel_rfl) (E := E0) ?_
  conv => whnf
  split
  · conv => whnf
    refine ⟨rfl, ?_⟩
    simp_all [upperP] <;> omega
  · conv => whnf
    refine ⟨rfl, ?_⟩
    simp_all [upperP] <;> omega
theorem ok109 (b : Int) : POk 109 [.sc (.int .u8 b)] (.sc (.bool (digitP b))) := by
  refine fn_ok mixed (En_ok _ _ _ _) (pl := fun _ => []) (fn := Go.Proofs.Tryz.f109) (c := _) (by kernel_rfl) rfl (by decide) (by kernel_rfl) (E := E0) ?_
  conv => whnf
  split
  · conv => whnf
    refine ⟨rfl, ?_⟩
    simp_all [digitP] <;> omega
  · conv => whnf
    refine ⟨rfl, ?_⟩
    simp_all [digitP] <;> omega
def wordB (b : UInt8) : Bool := lowerP b.toNat || upperP b.toNat || digitP b.toNat || decide ((b.toNat : Int) = 95)
def tailP (s : ByteArray) : Bool := (s.toList.drop 1).all wordB
theorem ok93 (s : ByteArray) (hs : s.size ≤ 9223372036854775807) : POk 93 [.sc (.string s)] (.sc (.bool (tailP s))) := by
  refine fn_ok mixed (En_ok _ _ _ _) (pl := fun _ => []) (fn := Go.Proofs.Tryz.f93) (c := _) (by kernel_rfl) rfl (by decide) (by kernel_rfl) (E := E0) ?_
  conv => whnf
  refine ⟨{ i : Nat // 1 ≤ i ∧ tailP s = (s.toList.drop i).all wordB }, fun i => St [(0, .sc (.string s)), (2, .sc (.bool false)), (3, .sc (.int .i64 i.1))] [] [], fun i => s.size + 1 - i.1, ⟨1, by omega, rfl⟩, ?_, ?_⟩
  · exact wk_of ⟨avle_refl _, avle_refl _, avle_refl _, trivial⟩ trivial rfl ⟨trivial, trivial, trivial, trivial⟩
  rintro ⟨i, hi, hinv⟩
  conv => whnf
  split
  · rename_i hlt
    have hlt : i < s.size := by simpa using hlt
    have hlt' : i < s.toList.length := by rw [ByteArray.toList_eq]; simpa using hlt
    have hb : s[i]? = some s.toList[i] := get_byte hlt'
    have hdrop : s.toList.drop i = s.toList[i] :: s.toList.drop (i + 1) := List.drop_eq_getElem_cons hlt'
    have hidx : (0 : Int) ≤ (i : Int) ∧ (i : Int) < s.size := ⟨by omega, by omega⟩
    generalize hc : s.toList[i] = c at hb hdrop
    have hwrap : IntKind.i64.wrap ((i : Int) + 1) = ((i + 1 : Nat) : Int) := (wrap_small _ (by omega) (by omega)).trans (by omega)
    rw [hdrop, List.all_cons] at hinv
    repeat' ((conv => whnf); first
      | refine ⟨hidx, c, hb, ?_⟩
      | refine use_pure (ok92 _) rfl ⟨rfl, ?_⟩
      | refine use_pure (ok108 _) rfl ⟨rfl, ?_⟩
      | refine use_pure (ok109 _) rfl ⟨rfl, ?_⟩
      | split)
    all_goals (conv => whnf)
    · refine ⟨rfl, ?_⟩
      simp_all [wordB]
    all_goals
      refine ⟨⟨i + 1, by omega, ?_⟩, wk_of ⟨avle_refl _, avle_refl _, avle_int hwrap, trivial⟩ trivial rfl ⟨trivial, trivial, trivial, trivial⟩, ?_⟩
      · simp_all [wordB]
      · show s.size + 1 - (i + 1) < s.size + 1 - i
        omega
  · rename_i hlt
    conv => whnf
    refine ⟨rfl, ?_⟩
    have hlt : s.size ≤ i := by simpa using hlt
    rw [hinv, List.drop_of_length_le (by rw [ByteArray.toList_eq]; simpa using hlt)]
    rfl
end Go.Proofs.YtjchgncgkhofhaaGreat.AL
/- The program's functions in abstract words: names, constants. -/
set_option linter.unusedVariables false
namespace Go.Proofs.YtjchgncgkhofhaaGreat.AL
open Go
attribute [local irreducible] PlainFn CallOk

def headB (s : ByteArray) : Int := ((s.toList.headD 0).toNat : Int)
theorem head_get {s : ByteArray} (h : 1 ≤ s.size) : s[(0 : Int).toNat]? = some (s.toList.headD 0) := by
  have hl : 0 < s.toList.length := by rw [ByteArray.toList_eq]; have : 0 < s.data.size := h; simpa using this
  have := get_byte (s := s) (i := 0) hl
  rw [show (0 : Int).toNat = 0 from rfl, this]
  congr 1
  rw [List.headD_eq_head?_getD, List.head?_eq_getElem?, List.getElem?_eq_getElem hl]; rfl
def notB : ByteArray := ⟨#[110, 111, 116]⟩
def nameP (s : ByteArray) : Bool := decide (1 ≤ s.size) && decide (s.size ≤ 64) && !decide (s = notB) && lowerP (headB s) && tailP s
theorem ok74 (s : ByteArray) : POk 74 [.sc (.string s)] (.sc (.bool (nameP s))) := by
  refine fn_ok mixed (En_ok _ _ _ _) (pl := fun _ => []) (fn := Go.Proofs.Tryz.f74) (c := _) (by kernel_rfl) rfl (by decide) (by kernel_rfl) (E := E0) ?_
  repeat' ((conv => whnf); first
      | refine ⟨⟨by simp_all, by simp_all; omega⟩, _, head_get (by simp_all; omega), ?_⟩
      | refine use_pure (ok92 _) rfl ⟨rfl, ?_⟩
      | refine use_pure (ok93 _ (by simp_all; omega)) rfl ⟨rfl, ?_⟩
      | split)
  all_goals (conv => whnf)
  all_goals (refine ⟨rfl, ?_⟩)
  all_goals (first | (simp_all [nameP, headB, notB]; done) | (simp_all [nameP, headB, notB]; omega))

def varP (s : ByteArray) : Bool := decide (1 ≤ s.size) && decide (s.size ≤ 64) && (upperP (headB s) || decide (headB s = 95)) && tailP s
theorem ok94 (s : ByteArray) : POk 94 [.sc (.string s)] (.sc (.bool (varP s))) := by
  refine fn_ok mixed (En_ok _ _ _ _) (pl := fun _ => []) (fn := Go.Proofs.Tryz.f94) (c := _) (by kernel_rfl) rfl (by decide) (by kernel_rfl) (E := E0) ?_
  repeat' ((conv => whnf); first
      | refine ⟨⟨by simp_all, by simp_all; omega⟩, _, head_get (by simp_all; omega), ?_⟩
      | refine use_pure (ok108 _) rfl ⟨rfl, ?_⟩
      | refine use_pure (ok93 _ (by simp_all; omega)) rfl ⟨rfl, ?_⟩
      | split)
  all_goals (conv => whnf)
  all_goals (refine ⟨rfl, ?_⟩)
  all_goals (first | (simp_all [varP, headB]; done) | (simp_all [varP, headB]; omega))

/-- A term or a constant: its kind, number, text. -/
structure Tm where
  kind : Int
  num : Int
  text : ByteArray
  off : Int
  deriving DecidableEq
def aC (t : Tm) : AV := .agg [.sc (.int .i64 t.kind), .sc (.int .i64 t.num), .sc (.string t.text)]
def aT (t : Tm) : AV := .agg [.sc (.int .i64 t.kind), .sc (.int .i64 t.num), .sc (.string t.text), .sc (.int .i64 t.off)]
def validP (t : Tm) : Bool := if t.kind = 1 then decide (t.text = ⟨#[]⟩) else if t.kind = 2 then decide (t.num = 0) && nameP t.text else if t.kind = 3 then decide (t.num = 0) && decide (t.text.size ≤ 255) else false
theorem ok58 (t : Tm) : POk 58 [aC t] (.sc (.bool (validP t))) := by
  refine fn_ok mixed (En_ok _ _ _ _) (pl := fun _ => []) (fn := Go.Proofs.Tryz.f58) (c := _) (by kernel_rfl) rfl (by decide) (by kernel_rfl) (E := E0) ?_
  repeat' ((conv => whnf); first
      | refine use_pure (ok74 _) rfl ⟨rfl, ?_⟩
      | split)
  all_goals (conv => whnf)
  all_goals (refine ⟨rfl, ?_⟩)
  all_goals (first | (simp_all [validP]; done) | (simp_all [validP]; omega))

theorem valid_off (t : Tm) (o : Int) : validP ⟨t.kind, t.num, t.text, o⟩ = validP t := rfl
def termP (t : Tm) : Int := if t.kind = 4 then (if t.num = 0 ∧ varP t.text = true then 0 else 14) else if validP t then 0 else 5
theorem ok75 (t : Tm) : POk 75 [aT t] (.sc (.int .i64 (termP t))) := by
  refine fn_ok mixed (En_ok _ _ _ _) (pl := fun _ => []) (fn := Go.Proofs.Tryz.f75) (c := _) (by kernel_rfl) rfl (by decide) (by kernel_rfl) (E := E0) ?_
  repeat' ((conv => whnf); first
      | refine use_pure (ok94 _) rfl ⟨rfl, ?_⟩
      | refine use_pure (ok58 ⟨t.kind, t.num, t.text, 0⟩) rfl ⟨rfl, ?_⟩
      | split)
  all_goals (conv => whnf)
  all_goals (refine ⟨rfl, ?_⟩)
  all_goals (first | (simp_all [termP, valid_off]; done) | (simp_all [termP, valid_off]; omega))
def zeroP (t : Tm) : Bool := decide (t.kind = 0) && decide (t.num = 0) && decide (t.text = ⟨#[]⟩)
theorem ok76 (t : Tm) : POk 76 [aT t] (.sc (.bool (zeroP t))) := by
  refine fn_ok mixed (En_ok _ _ _ _) (pl := fun _ => []) (fn := Go.Proofs.Tryz.f76) (c := _) (by kernel_rfl) rfl (by decide) (by kernel_rfl) (E := E0) ?_
  repeat' ((conv => whnf); first
      | split)
  all_goals (conv => whnf)
  all_goals (refine ⟨rfl, ?_⟩)
  all_goals (first | (simp_all [zeroP]; done) | (simp_all [zeroP]; omega))
end Go.Proofs.YtjchgncgkhofhaaGreat.AL
/- The program's functions in abstract words: package sym, print: what is well formed. -/
set_option linter.unusedVariables false
set_option linter.unusedSimpArgs false
namespace Go.Proofs.YtjchgncgkhofhaaGreat.AL
open Go
attribute [local irreducible] PlainFn CallOk

theorem ok101 (b : Int) : POk 101 [.sc (.int .u8 b)] (.sc (.bool (lowerP b))) := by
  refine fn_ok mixed (En_ok _ _ _ _) (pl := fun _ => []) (fn := Go.Proofs.Tryz.f101) (c := _) (by kernel_rfl) rfl (by decide) (by kernel_rfl) (E := E0) ?_
  repeat' ((conv => whnf); first
      | split)
  all_goals (conv => whnf)
  all_goals (refine ⟨rfl, ?_⟩)
  all_goals (first | (simp_all [lowerP]; done) | (simp_all [lowerP]; omega))
def bigP (b : Int) : Bool := upperP b || decide (b = 95)
theorem ok113 (b : Int) : POk 113 [.sc (.int .u8 b)] (.sc (.bool (bigP b))) := by
  refine fn_ok mixed (En_ok _ _ _ _) (pl := fun _ => []) (fn := Go.Proofs.Tryz.f113) (c := _) (by kernel_rfl) rfl (by decide) (by kernel_rfl) (E := E0) ?_
  repeat' ((conv => whnf); first
      | split)
  all_goals (conv => whnf)
  all_goals (refine ⟨rfl, ?_⟩)
  all_goals (first | (simp_all [bigP, upperP]; done) | (simp_all [bigP, upperP]; omega))

theorem extract_toList (s : ByteArray) (a b : Nat) : (s.extract a b).toList = (s.toList.drop a).take (b - a) := by
  rw [ByteArray.toList_eq, ByteArray.toList_eq, ByteArray.data_extract, Array.toList_extract, List.extract_eq_take_drop]
theorem tail_extract (s : ByteArray) : (s.extract (1 : Int).toNat (s.size : Int).toNat).toList = s.toList.drop 1 := by
  rw [extract_toList]
  rw [List.take_of_length_le]; · rfl
  · rw [List.length_drop, ByteArray.toList_eq]; simp
/-- One element of a row of single cells. -/
theorem take_one {f : UInt8 → AV} {l : List UInt8} {i : Nat} (h : i < l.length) : ((l.map f).drop ((i : Int).toNat * 1)).take 1 = [f l[i]] := by
  rw [Int.toNat_natCast, Nat.mul_one, ← List.map_drop, List.drop_eq_getElem_cons h]; rfl
theorem idx0 {s : ByteArray} {K : UInt8 → Prop} (h : 1 ≤ s.size) (hk : K (s.toList.headD 0)) : ((0 : Int) ≤ 0 ∧ (0 : Int) < s.size) ∧ ∃ b, s[(0 : Int).toNat]? = some b ∧ K b := ⟨⟨by omega, by omega⟩, _, head_get h, hk⟩
def wordP (p : Int → Bool) (s : ByteArray) : Bool := decide (s ≠ ⟨#[]⟩) && decide (s.size ≤ 64) && p (headB s) && tailP s
theorem ok100 (s : ByteArray) (g : Nat) (p : Int → Bool) (hg : ∀ b, POk g [.sc (.int .u8 b)] (.sc (.bool (p b)))) : POk 100 [.sc (.string s), .fn (.func g) [] []] (.sc (.bool (wordP p s))) := by
  refine fn_ok mixed (En_ok _ _ _ _) (pl := fun _ => []) (fn := Go.Proofs.Tryz.f100) (c := _) (by kernel_rfl) rfl (by decide) (by kernel_rfl) (E := E0) ?_
  have hne : s ≠ ⟨#[]⟩ → 1 ≤ s.size := by
    intro h
    rcases Nat.eq_zero_or_pos s.size with e | e
    · exact absurd (by
        obtain ⟨⟨l⟩⟩ := s
        cases l with
        | nil => rfl
        | cons x r => simp [ByteArray.size] at e) h
    · exact e
  repeat' ((conv => whnf); first
      | refine idx0 ?_ ?_
      | refine use_pure (hg _) rfl ⟨rfl, ?_⟩
      | refine And.intro ?_ ?_
      | split)
  case h_2.refine_2.refine_2 =>
    rename_i hz _ h64 _ hp
    have hs1 : 1 ≤ s.size := hne (by simpa using hz)
    have hs2 : s.size ≤ 64 := by have := of_decide_eq_false h64; omega
    have hp' : p (headB s) = true := by simpa [headB] using hp
    generalize hL : (s.extract (1 : Int).toNat (s.size : Int).toNat) = s1
    have hl1 : s1.toList = s.toList.drop 1 := by rw [← hL]; exact tail_extract s
    have hsz : s1.size = s1.toList.length := by rw [ByteArray.toList_eq]; simp
    have hsz2 : s1.size ≤ 64 := by rw [hsz, hl1, List.length_drop, ByteArray.toList_eq]; have : s.data.size = s.size := rfl; simp; omega
    conv => whnf
    refine ⟨{ i : Nat // tailP s = (s1.toList.drop i).all wordB }, fun i => St [(4, .sc (.bool false)), (23, .vec false 1 s1.size (s1.toList.map fun b => .sc (.int .u8 b.toNat))), (24, .sc (.int .i64 s1.size)), (25, .sc (.int .i64 i.1))] [] [], fun i => s1.size - i.1, ⟨0, by rw [hl1]; rfl⟩, ?_, ?_⟩
    · exact wk_of ⟨avle_refl _, avle_refl _, avle_refl _, avle_refl _, trivial⟩ trivial rfl ⟨trivial, trivial, trivial, trivial, trivial⟩
    rintro ⟨i, hinv⟩
    conv => whnf
    split
    · rename_i hlt
      have hlt : i < s1.size := by simpa using hlt
      have hlt' : i < s1.toList.length := by rw [← hsz]; exact hlt
      have hdrop : s1.toList.drop i = s1.toList[i] :: s1.toList.drop (i + 1) := List.drop_eq_getElem_cons hlt'
      have hwrap : IntKind.i64.wrap ((i : Int) + 1) = ((i + 1 : Nat) : Int) := (wrap_small _ (by omega) (by omega)).trans (by omega)
      rw [hdrop, List.all_cons] at hinv
      conv => whnf
      refine ⟨⟨Int.natCast_nonneg _, Int.ofNat_lt.2 hlt⟩, _, take_one hlt', ?_⟩
      generalize s1.toList[i] = c at hinv hdrop
      repeat' ((conv => whnf); first
        | refine use_pure (ok101 _) rfl ⟨rfl, ?_⟩
        | refine use_pure (ok113 _) rfl ⟨rfl, ?_⟩
        | refine And.intro ?_ ?_
        | split)
      all_goals (try rfl)
      all_goals clear hlt' hdrop hs1 hs2 hsz hsz2 hl1 hz h64 hne hL
      all_goals (cases hw : wordB c)
      all_goals (rw [hw] at hinv)
      all_goals (first
        | (exfalso; clear hinv hwrap; simp_all [wordB, bigP, digitP]; done)
        | (exfalso; clear hinv hwrap; simp_all [wordB, bigP, digitP]; omega)
        | (rw [Bool.false_and] at hinv; simp [wordP, hinv]; done)
        | (conv => whnf
           rw [Bool.true_and] at hinv
           exact ⟨⟨i + 1, hinv⟩, wk_of ⟨avle_refl _, avle_refl _, avle_refl _, avle_int hwrap, trivial⟩ trivial rfl ⟨trivial, trivial, trivial, trivial, trivial⟩, Nat.sub_lt_sub_left hlt (Nat.lt_succ_self i)⟩)
        | skip)
    · rename_i hlt
      have hlt : s1.size ≤ i := by simpa using hlt
      conv => whnf
      refine ⟨rfl, ?_⟩
      rw [List.drop_of_length_le (by rw [← hsz]; exact hlt)] at hinv
      simp_all [wordP]
  all_goals (first | rfl | omega | (simp_all [wordP, headB]; done) | (simp_all; omega) | (simp_all [wordP]; intros; omega) | skip)
  · have h1 : s ≠ ⟨#[]⟩ := fun e => by simp_all
    have := hne h1
    omega

theorem word_name (s : ByteArray) : (decide (s ≠ notB) && wordP lowerP s) = nameP s := by
  unfold wordP nameP
  have h : (decide (1 ≤ s.size)) = decide (s ≠ ⟨#[]⟩) := by
    have h1 : (s = ⟨#[]⟩) ↔ s.size = 0 := by
      constructor
      · rintro rfl; rfl
      · intro e
        obtain ⟨⟨l⟩⟩ := s
        cases l with
        | nil => rfl
        | cons x r => simp [ByteArray.size] at e
    by_cases e : s = ⟨#[]⟩
    · subst e; rfl
    · have : s.size ≠ 0 := fun q => e (h1.2 q)
      simp [e]; omega
  rw [h]
  cases decide (s ≠ ⟨#[]⟩) <;> cases decide (s.size ≤ 64) <;> cases hq : decide (s = notB) <;> simp_all
theorem ok84 (s : ByteArray) : POk 84 [.sc (.string s)] (.sc (.bool (decide (s ≠ notB) && wordP lowerP s))) := by
  refine fn_ok mixed (En_ok _ _ _ _) (pl := fun _ => []) (fn := Go.Proofs.Tryz.f84) (c := _) (by kernel_rfl) rfl (by decide) (by kernel_rfl) (E := E0) ?_
  repeat' ((conv => whnf); first
      | refine use_pure (ok100 _ 101 _ ok101) rfl ⟨rfl, ?_⟩
      | split)
  all_goals (conv => whnf)
  all_goals (refine ⟨rfl, ?_⟩)
  all_goals (first | (simp_all [notB]; done) | (simp_all [notB]; omega))
theorem ok102 (s : ByteArray) : POk 102 [.sc (.string s)] (.sc (.bool (wordP bigP s))) := by
  refine fn_ok mixed (En_ok _ _ _ _) (pl := fun _ => []) (fn := Go.Proofs.Tryz.f102) (c := _) (by kernel_rfl) rfl (by decide) (by kernel_rfl) (E := E0) ?_
  repeat' ((conv => whnf); first
      | refine use_pure (ok100 _ 113 _ ok113) rfl ⟨rfl, ?_⟩
      | split)
  all_goals (conv => whnf)
  all_goals (refine ⟨rfl, ?_⟩)
  all_goals (first | (simp_all [notB]; done) | (simp_all [notB]; omega))
end Go.Proofs.YtjchgncgkhofhaaGreat.AL
/- The program's functions in abstract words: package print: what is well formed. -/
set_option linter.unusedVariables false
set_option linter.unusedSimpArgs false
namespace Go.Proofs.YtjchgncgkhofhaaGreat.AL
open Go
attribute [local irreducible] PlainFn CallOk

theorem ok84' (s : ByteArray) : POk 84 [.sc (.string s)] (.sc (.bool (nameP s))) := by rw [← word_name]; exact ok84 s
theorem word_var (s : ByteArray) : wordP bigP s = varP s := by
  unfold wordP varP bigP
  have h : (decide (1 ≤ s.size)) = decide (s ≠ ⟨#[]⟩) := by
    have h1 : (s = ⟨#[]⟩) ↔ s.size = 0 := by
      constructor
      · rintro rfl; rfl
      · intro e
        obtain ⟨⟨l⟩⟩ := s
        cases l with
        | nil => rfl
        | cons x r => simp [ByteArray.size] at e
    by_cases e : s = ⟨#[]⟩
    · subst e; rfl
    · have : s.size ≠ 0 := fun q => e (h1.2 q)
      simp [e]; omega
  rw [h]
theorem ok102' (s : ByteArray) : POk 102 [.sc (.string s)] (.sc (.bool (varP s))) := by rw [← word_var]; exact ok102 s
theorem ok72 (t : Tm) : POk 72 [aC t] (.sc (.bool (validP t))) := by
  refine fn_ok mixed (En_ok _ _ _ _) (pl := fun _ => []) (fn := Go.Proofs.Tryz.f72) (c := _) (by kernel_rfl) rfl (by decide) (by kernel_rfl) (E := E0) ?_
  repeat' ((conv => whnf); first
      | refine use_pure (ok84' _) rfl ⟨rfl, ?_⟩
      | split)
  all_goals (conv => whnf)
  all_goals (refine ⟨rfl, ?_⟩)
  all_goals (first | rfl | (simp_all [validP]; done) | (simp_all [validP]; omega) | skip)
theorem ok104 (t : Tm) : POk 104 [aT t] (aC t) := by
  refine fn_ok mixed (En_ok _ _ _ _) (pl := fun _ => []) (fn := Go.Proofs.Tryz.f104) (c := _) (by kernel_rfl) rfl (by decide) (by kernel_rfl) (E := E0) ?_
  repeat' ((conv => whnf); first
      | split)
  all_goals (conv => whnf)
  all_goals (refine ⟨rfl, ?_⟩)
  all_goals (first | rfl | (simp_all [aC]; done) | (simp_all [aC]; omega) | skip)
theorem valid_eta (t : Tm) : validP ⟨t.kind, t.num, t.text, t.off⟩ = validP t := rfl
theorem ok103 (t : Tm) : POk 103 [aC t] (.sc (.int .i64 (if validP t then 0 else 5))) := by
  refine fn_ok mixed (En_ok _ _ _ _) (pl := fun _ => []) (fn := Go.Proofs.Tryz.f103) (c := _) (by kernel_rfl) rfl (by decide) (by kernel_rfl) (E := E0) ?_
  repeat' ((conv => whnf); first
      | refine use_pure (ok72 ⟨t.kind, t.num, t.text, t.off⟩) rfl ⟨rfl, ?_⟩
      | split)
  all_goals (conv => whnf)
  all_goals (refine ⟨rfl, ?_⟩)
  all_goals (first | rfl | (simp_all [valid_eta]; done) | (simp_all [valid_eta]; omega) | skip)
theorem ok87 (t : Tm) : POk 87 [aT t] (.sc (.bool (zeroP t))) := by
  refine fn_ok mixed (En_ok _ _ _ _) (pl := fun _ => []) (fn := Go.Proofs.Tryz.f87) (c := _) (by kernel_rfl) rfl (by decide) (by kernel_rfl) (E := E0) ?_
  repeat' ((conv => whnf); first
      | split)
  all_goals (conv => whnf)
  all_goals (refine ⟨rfl, ?_⟩)
  all_goals (first | rfl | (simp [zeroP, Bool.and_assoc]; done) | (simp_all [zeroP]; omega) | skip)
theorem ok86 (t : Tm) : POk 86 [aT t] (.sc (.int .i64 (termP t))) := by
  refine fn_ok mixed (En_ok _ _ _ _) (pl := fun _ => []) (fn := Go.Proofs.Tryz.f86) (c := _) (by kernel_rfl) rfl (by decide) (by kernel_rfl) (E := E0) ?_
  repeat' ((conv => whnf); first
      | refine use_pure (ok102' _) rfl ⟨rfl, ?_⟩
      | refine use_pure (ok104 t) rfl ⟨rfl, ?_⟩
      | refine use_pure (ok103 t) rfl ⟨rfl, ?_⟩
      | split)
  all_goals (conv => whnf)
  all_goals (refine ⟨rfl, ?_⟩)
  all_goals (first | rfl | (simp_all [termP]; done) | (simp_all [termP]; omega) | skip)
end Go.Proofs.YtjchgncgkhofhaaGreat.AL
/- The program's functions in abstract words: lists of terms, literals, clauses. -/
set_option linter.unusedVariables false
namespace Go.Proofs.YtjchgncgkhofhaaGreat.AL
open Go
attribute [local irreducible] PlainFn CallOk

/-- One element of a row of cells. -/
theorem take_cells {α : Type} {g : α → List AV} {n : Nat} (hg : ∀ x, (g x).length = n) : ∀ (l : List α) (i : Nat) (h : i < l.length), ((l.flatMap g).drop (i * n)).take n = g l[i]
  | x :: l, 0, h => by
    simp only [List.flatMap_cons, Nat.zero_mul, List.drop_zero, List.getElem_cons_zero]
    rw [List.take_append_of_le_length (by rw [hg]; exact Nat.le_refl _), List.take_of_length_le (by rw [hg]; exact Nat.le_refl _)]
  | x :: l, i + 1, h => by
    simp only [List.flatMap_cons, List.getElem_cons_succ]
    have h2 : (g x ++ l.flatMap g).drop ((i + 1) * n) = (l.flatMap g).drop (i * n) := by
      have h3 : (g x ++ l.flatMap g).drop n = l.flatMap g := List.drop_left' (hg x)
      rw [show (i + 1) * n = n + i * n from by rw [Nat.succ_mul]; omega, ← List.drop_drop, h3]
    rw [h2]
    exact take_cells hg l i (by simpa using h)
theorem length_cells {α : Type} {g : α → List AV} {n : Nat} (hg : ∀ x, (g x).length = n) (l : List α) : (l.flatMap g).length = l.length * n := by
  induction l with
  | nil => simp
  | cons x l ih => simp only [List.flatMap_cons, List.length_append, hg, ih, List.length_cons, Nat.succ_mul]; omega

def cT (t : Tm) : List AV := [.sc (.int .i64 t.kind), .sc (.int .i64 t.num), .sc (.string t.text), .sc (.int .i64 t.off)]
def vT (l : List Tm) : AV := .vec false 4 l.length (l.flatMap cT)
/-- An atom: predicate, terms, place. -/
structure At where
  pred : ByteArray
  args : List Tm
  off : Int
  deriving DecidableEq
def cA (a : At) : List AV := [.sc (.string a.pred), vT a.args, .sc (.int .i64 a.off)]
def aA (a : At) : AV := .agg (cA a)
structure Lt where
  kind : Int
  atom : At
  op : Int
  left : Tm
  right : Tm
  off : Int
  deriving DecidableEq
def cL (l : Lt) : List AV := [.sc (.int .i64 l.kind), .sc (.string l.atom.pred), vT l.atom.args, .sc (.int .i64 l.atom.off), .sc (.int .i64 l.op),
  .sc (.int .i64 l.left.kind), .sc (.int .i64 l.left.num), .sc (.string l.left.text), .sc (.int .i64 l.left.off),
  .sc (.int .i64 l.right.kind), .sc (.int .i64 l.right.num), .sc (.string l.right.text), .sc (.int .i64 l.right.off), .sc (.int .i64 l.off)]
def aL (l : Lt) : AV := .agg (cL l)
def vL (l : List Lt) : AV := .vec false 14 l.length (l.flatMap cL)
structure Cl where
  head : At
  body : List Lt
  deriving DecidableEq
def cC (c : Cl) : List AV := cA c.head ++ [vL c.body]
def aCl (c : Cl) : AV := .agg (cC c)
def vC (l : List Cl) : AV := .vec false 4 l.length (l.flatMap cC)
def aP (p : List Cl) : AV := .agg [vC p]

theorem nrL_flat {α : Type} {g : α → List AV} (hg : ∀ x, nrL (g x) = true) (l : List α) : nrL (l.flatMap g) = true := by
  induction l with
  | nil => rfl
  | cons x l ih => rw [List.flatMap_cons, nrL_append, hg, ih]; rfl
theorem nr1 {x : AV} (h : nr x = true) : nrL [x] = true := by simp [nrL, h]
theorem nr2 {x y : AV} (h : nr x = true) (k : nr y = true) : nrL [x, y] = true := by simp [nrL, h, k]
theorem nr_vT (l : List Tm) : nr (vT l) = true := nrL_flat (fun _ => rfl) l
theorem nrL_cL (l : Lt) : nrL (cL l) = true := by simp [cL, nrL, nr, nr_vT]
theorem nr_aL (l : Lt) : nr (aL l) = true := nrL_cL l
theorem nr_vL (l : List Lt) : nr (vL l) = true := nrL_flat nrL_cL l
theorem nrL_cA (a : At) : nrL (cA a) = true := by simp [cA, nrL, nr, nr_vT]
theorem nr_aA (a : At) : nr (aA a) = true := nrL_cA a
theorem nrL_cC (c : Cl) : nrL (cC c) = true := by simp [cC, nrL_append, nrL_cA, nrL, nr_vL]
theorem nr_aCl (c : Cl) : nr (aCl c) = true := nrL_cC c
theorem nr_vC (l : List Cl) : nr (vC l) = true := nrL_flat nrL_cC l
theorem nr_aP (l : List Cl) : nr (aP l) = true := nr1 (nr_vC l)

def firstP {α : Type} (f : α → Int) : List α → Int
  | [] => 0
  | x :: l => if f x = 0 then firstP f l else f x
end Go.Proofs.YtjchgncgkhofhaaGreat.AL
/- The program's functions in abstract words: the first reason in a list. -/
set_option linter.unusedVariables false
namespace Go.Proofs.YtjchgncgkhofhaaGreat.AL
open Go
attribute [local irreducible] PlainFn CallOk

theorem first_drop {α : Type} (f : α → Int) (l : List α) (i : Nat) (h : i < l.length) : firstP f (l.drop i) = if f l[i] = 0 then firstP f (l.drop (i + 1)) else f l[i] := by
  rw [List.drop_eq_getElem_cons h]; rfl
theorem ok85 (l : List Tm) (hl : l.length ≤ 9223372036854775807) (g : Nat) (f : Tm → Int) (hg : ∀ t, POk g [aT t] (.sc (.int .i64 (f t)))) : POk 85 [vT l, .fn (.func g) [] []] (.sc (.int .i64 (firstP f l))) := by
  refine fn_ok mixed (En_ok _ _ _ _) (pl := fun _ => []) (fn := Go.Proofs.Tryz.f85) (c := _) (by kernel_rfl) rfl (by decide) (by kernel_rfl) (E := E0) ?_
  conv => whnf
  refine ⟨{ i : Nat // firstP f l = firstP f (l.drop i) }, fun i => St [(1, .fn (.func g) [] []), (4, .sc (.int .i64 0)), (8, vT l), (9, .sc (.int .i64 l.length)), (10, .sc (.int .i64 i.1))] [] [], fun i => l.length - i.1, ⟨0, rfl⟩, ?_, ?_⟩
  · exact wk_of ⟨avle_refl _, avle_refl _, avle_refl _, avle_refl _, avle_refl _, trivial⟩ trivial rfl ⟨trivial, trivial, trivial, trivial, trivial, trivial⟩
  rintro ⟨i, hinv⟩
  conv => whnf
  split
  · rename_i hlt
    have hlt : i < l.length := by simpa using hlt
    have hwrap : IntKind.i64.wrap ((i : Int) + 1) = ((i + 1 : Nat) : Int) := (wrap_small _ (by omega) (by omega)).trans (by omega)
    rw [first_drop f l i hlt] at hinv
    conv => whnf
    refine ⟨⟨Int.natCast_nonneg _, Int.ofNat_lt.2 hlt⟩, _, take_cells (g := cT) (n := 4) (fun _ => rfl) l i hlt, ?_⟩
    generalize l[i] = t at hinv
    conv => whnf
    refine use_pure (hg t) rfl ⟨rfl, ?_⟩
    conv => whnf
    split
    · rename_i hf
      have hf : ¬ f t = 0 := by simpa using hf
      conv => whnf
      exact ⟨rfl, by rw [hinv, if_neg hf]⟩
    · rename_i hf
      have hf : f t = 0 := by simpa using hf
      rw [if_pos hf] at hinv
      conv => whnf
      exact ⟨⟨i + 1, hinv⟩, wk_of ⟨avle_refl _, avle_refl _, avle_refl _, avle_refl _, avle_int hwrap, trivial⟩ trivial rfl ⟨trivial, trivial, trivial, trivial, trivial, trivial⟩, Nat.sub_lt_sub_left hlt (Nat.lt_succ_self i)⟩
  · rename_i hlt
    have hlt : l.length ≤ i := by simpa using hlt
    conv => whnf
    refine ⟨rfl, ?_⟩
    rw [hinv, List.drop_of_length_le hlt]; rfl
theorem ok61 (l : List Lt) (hl : l.length ≤ 9223372036854775807) (g : Nat) (f : Lt → Int) (hg : ∀ t, POk g [aL t] (.sc (.int .i64 (f t)))) : POk 61 [vL l, .fn (.func g) [] []] (.sc (.int .i64 (firstP f l))) := by
  refine fn_ok mixed (En_ok _ _ _ _) (pl := fun _ => []) (fn := Go.Proofs.Tryz.f61) (c := _) (by kernel_rfl) rfl (by decide) (by kernel_rfl) (E := E0) ?_
  conv => whnf
  refine ⟨{ i : Nat // firstP f l = firstP f (l.drop i) }, fun i => St [(1, .fn (.func g) [] []), (4, .sc (.int .i64 0)), (8, vL l), (9, .sc (.int .i64 l.length)), (10, .sc (.int .i64 i.1))] [] [], fun i => l.length - i.1, ⟨0, rfl⟩, ?_, ?_⟩
  · exact wk_of ⟨avle_refl _, avle_refl _, avle_refl _, avle_refl _, avle_refl _, trivial⟩ trivial rfl ⟨trivial, trivial, trivial, trivial, trivial, trivial⟩
  rintro ⟨i, hinv⟩
  conv => whnf
  split
  · rename_i hlt
    have hlt : i < l.length := by simpa using hlt
    have hwrap : IntKind.i64.wrap ((i : Int) + 1) = ((i + 1 : Nat) : Int) := (wrap_small _ (by omega) (by omega)).trans (by omega)
    rw [first_drop f l i hlt] at hinv
    conv => whnf
    refine ⟨⟨Int.natCast_nonneg _, Int.ofNat_lt.2 hlt⟩, _, take_cells (g := cL) (n := 14) (fun _ => rfl) l i hlt, ?_⟩
    generalize l[i] = t at hinv
    conv => whnf
    refine use_pure (hg t) (nr1 (nr_aL t)) ⟨rfl, ?_⟩
    conv => whnf
    split
    · rename_i hf
      have hf : ¬ f t = 0 := by simpa using hf
      conv => whnf
      exact ⟨rfl, by rw [hinv, if_neg hf]⟩
    · rename_i hf
      have hf : f t = 0 := by simpa using hf
      rw [if_pos hf] at hinv
      conv => whnf
      exact ⟨⟨i + 1, hinv⟩, wk_of ⟨avle_refl _, avle_refl _, avle_refl _, avle_refl _, avle_int hwrap, trivial⟩ trivial rfl ⟨trivial, trivial, trivial, trivial, trivial, trivial⟩, Nat.sub_lt_sub_left hlt (Nat.lt_succ_self i)⟩
  · rename_i hlt
    have hlt : l.length ≤ i := by simpa using hlt
    conv => whnf
    refine ⟨rfl, ?_⟩
    rw [hinv, List.drop_of_length_le hlt]; rfl
theorem ok38 (l : List Cl) (hl : l.length ≤ 9223372036854775807) (g : Nat) (f : Cl → Int) (hg : ∀ t, POk g [aCl t] (.sc (.int .i64 (f t)))) : POk 38 [vC l, .fn (.func g) [] []] (.sc (.int .i64 (firstP f l))) := by
  refine fn_ok mixed (En_ok _ _ _ _) (pl := fun _ => []) (fn := Go.Proofs.Tryz.f38) (c := _) (by kernel_rfl) rfl (by decide) (by kernel_rfl) (E := E0) ?_
  conv => whnf
  refine ⟨{ i : Nat // firstP f l = firstP f (l.drop i) }, fun i => St [(1, .fn (.func g) [] []), (4, .sc (.int .i64 0)), (8, vC l), (9, .sc (.int .i64 l.length)), (10, .sc (.int .i64 i.1))] [] [], fun i => l.length - i.1, ⟨0, rfl⟩, ?_, ?_⟩
  · exact wk_of ⟨avle_refl _, avle_refl _, avle_refl _, avle_refl _, avle_refl _, trivial⟩ trivial rfl ⟨trivial, trivial, trivial, trivial, trivial, trivial⟩
  rintro ⟨i, hinv⟩
  conv => whnf
  split
  · rename_i hlt
    have hlt : i < l.length := by simpa using hlt
    have hwrap : IntKind.i64.wrap ((i : Int) + 1) = ((i + 1 : Nat) : Int) := (wrap_small _ (by omega) (by omega)).trans (by omega)
    rw [first_drop f l i hlt] at hinv
    conv => whnf
    refine ⟨⟨Int.natCast_nonneg _, Int.ofNat_lt.2 hlt⟩, _, take_cells (g := cC) (n := 4) (fun _ => rfl) l i hlt, ?_⟩
    generalize l[i] = t at hinv
    conv => whnf
    refine use_pure (hg t) (nr1 (nr_aCl t)) ⟨rfl, ?_⟩
    conv => whnf
    split
    · rename_i hf
      have hf : ¬ f t = 0 := by simpa using hf
      conv => whnf
      exact ⟨rfl, by rw [hinv, if_neg hf]⟩
    · rename_i hf
      have hf : f t = 0 := by simpa using hf
      rw [if_pos hf] at hinv
      conv => whnf
      exact ⟨⟨i + 1, hinv⟩, wk_of ⟨avle_refl _, avle_refl _, avle_refl _, avle_refl _, avle_int hwrap, trivial⟩ trivial rfl ⟨trivial, trivial, trivial, trivial, trivial, trivial⟩, Nat.sub_lt_sub_left hlt (Nat.lt_succ_self i)⟩
  · rename_i hlt
    have hlt : l.length ≤ i := by simpa using hlt
    conv => whnf
    refine ⟨rfl, ?_⟩
    rw [hinv, List.drop_of_length_le hlt]; rfl
end Go.Proofs.YtjchgncgkhofhaaGreat.AL
/- The program's functions in abstract words: package print: atoms, literals, clauses, programs. -/
set_option linter.unusedVariables false
namespace Go.Proofs.YtjchgncgkhofhaaGreat.AL
open Go
attribute [local irreducible] PlainFn CallOk

def atomP (a : At) : Int := if nameP a.pred then (if 8 < a.args.length then 22 else firstP termP a.args) else 14
theorem ok60 (a : At) : POk 60 [aA a] (.sc (.int .i64 (atomP a))) := by
  refine fn_ok mixed (En_ok _ _ _ _) (pl := fun _ => []) (fn := Go.Proofs.Tryz.f60) (c := _) (by kernel_rfl) rfl (by decide) (by kernel_rfl) (E := E0) ?_
  repeat' ((conv => whnf); first
      | refine use_pure (ok84' _) rfl ⟨rfl, ?_⟩
      | refine use_pure (ok85 _ (by simp_all; omega) _ _ ok86) (nr2 (nr_vT _) rfl) ⟨rfl, ?_⟩
      | split)
  all_goals (conv => whnf)
  all_goals (refine ⟨rfl, ?_⟩)
  all_goals (first | rfl | (simp_all [atomP]; done) | (simp_all [atomP]; omega) | skip)
def litP (l : Lt) : Int :=
  if l.kind = 1 ∨ l.kind = 2 then (if l.op ≠ 0 ∨ zeroP l.left = false ∨ zeroP l.right = false then 2 else atomP l.atom)
  else if l.kind = 3 then (if l.op < 1 ∨ 6 < l.op ∨ l.atom.pred ≠ ⟨#[]⟩ ∨ 0 < l.atom.args.length then 2 else firstP termP [l.left, l.right])
  else 2
theorem h85 (l : Lt) : POk 85 [vT [l.left, l.right], .fn (.func 86) [] []] (.sc (.int .i64 (firstP termP [l.left, l.right]))) := ok85 [l.left, l.right] (by simp) 86 termP ok86
theorem ok62 (l : Lt) : POk 62 [aL l] (.sc (.int .i64 (litP l))) := by
  refine fn_ok mixed (En_ok _ _ _ _) (pl := fun _ => []) (fn := Go.Proofs.Tryz.f62) (c := _) (by kernel_rfl) rfl (by decide) (by kernel_rfl) (E := E0) ?_
  repeat' ((conv => whnf); first
      | refine use_pure (ok87 l.left) rfl ⟨rfl, ?_⟩
      | refine use_pure (ok87 l.right) rfl ⟨rfl, ?_⟩
      | refine use_pure (ok60 l.atom) (nr1 (nr_aA _)) ⟨rfl, ?_⟩
      | refine use_pure (h85 l) (nr2 (nr_vT [l.left, l.right]) rfl) ⟨rfl, ?_⟩
      | split)
  all_goals (conv => whnf)
  all_goals (refine ⟨rfl, ?_⟩)
  all_goals (first | rfl | (simp_all [litP]; done) | (simp_all [litP]; omega) | skip)
def clauseP (c : Cl) : Int := if atomP c.head ≠ 0 then atomP c.head else if 16 < c.body.length then 23 else firstP litP c.body
theorem h61 (l : List Lt) (h : l.length ≤ 16) : POk 61 [vL l, .fn (.func 62) [] []] (.sc (.int .i64 (firstP litP l))) := ok61 l (by omega) 62 litP ok62
theorem ok39 (c : Cl) : POk 39 [aCl c] (.sc (.int .i64 (clauseP c))) := by
  refine fn_ok mixed (En_ok _ _ _ _) (pl := fun _ => []) (fn := Go.Proofs.Tryz.f39) (c := _) (by kernel_rfl) rfl (by decide) (by kernel_rfl) (E := E0) ?_
  repeat' ((conv => whnf); first
      | refine use_pure (ok60 c.head) (nr1 (nr_aA _)) ⟨rfl, ?_⟩
      | refine use_pure (h61 c.body (by simp_all; omega)) (nr2 (nr_vL _) rfl) ⟨rfl, ?_⟩
      | split)
  all_goals (conv => whnf)
  all_goals (refine ⟨rfl, ?_⟩)
  all_goals (first | rfl | (simp_all [clauseP]; done) | (simp_all [clauseP]; omega) | skip)
def wellP (p : List Cl) : Int := if 512 < p.length then 24 else firstP clauseP p
theorem h38 (l : List Cl) (h : l.length ≤ 512) : POk 38 [vC l, .fn (.func 39) [] []] (.sc (.int .i64 (firstP clauseP l))) := ok38 l (by omega) 39 clauseP ok39
theorem ok19 (p : List Cl) : POk 19 [aP p] (.sc (.int .i64 (wellP p))) := by
  refine fn_ok mixed (En_ok _ _ _ _) (pl := fun _ => []) (fn := Go.Proofs.Tryz.f19) (c := _) (by kernel_rfl) rfl (by decide) (by kernel_rfl) (E := E0) ?_
  repeat' ((conv => whnf); first
      | refine use_pure (h38 p (by simp_all; omega)) (nr2 (nr_vC _) rfl) ⟨rfl, ?_⟩
      | split)
  all_goals (conv => whnf)
  all_goals (refine ⟨rfl, ?_⟩)
  all_goals (first | rfl | (simp_all [wellP]; done) | (simp_all [wellP]; omega) | skip)
end Go.Proofs.YtjchgncgkhofhaaGreat.AL
