/- The abstract machine, and the contracts of the code: part 43. -/
import Derived.Test.YtchljppcenckaaaFwV

section
/- The hash of the chapter, as plain functions. -/
namespace Go.Fw
open Go
set_option linter.unusedVariables false

def u32T (x : UInt32) : T := .int .u32 (x.toNat : Int)

theorem u32T_getD {l : List UInt32} {i : Nat} (h : i < l.length) : (List.map u32T l).getD i default = .int .u32 ((l.getD i 0).toNat : Int) := by
  simp [List.getD_eq_getElem?_getD, h, u32T]

/-- A number turned to the right. -/
def tr (x : UInt32) (n : Nat) : UInt32 := (x >>> UInt32.ofNat n) ||| (x <<< UInt32.ofNat (32 - n))

def kS : List UInt32 := [1116352408, 1899447441, 3049323471, 3921009573, 961987163, 1508970993, 2453635748, 2870763221, 3624381080, 310598401, 607225278, 1426881987, 1925078388, 2162078206, 2614888103, 3248222580, 3835390401, 4022224774, 264347078, 604807628, 770255983, 1249150122, 1555081692, 1996064986, 2554220882, 2821834349, 2952996808, 3210313671, 3336571891, 3584528711, 113926993, 338241895, 666307205, 773529912, 1294757372, 1396182291, 1695183700, 1986661051, 2177026350, 2456956037, 2730485921, 2820302411, 3259730800, 3345764771, 3516065817, 3600352804, 4094571909, 275423344, 430227734, 506948616, 659060556, 883997877, 958139571, 1322822218, 1537002063, 1747873779, 1955562222, 2024104815, 2227730452, 2361852424, 2428436474, 2756734187, 3204031479, 3329325298]
def hS : List UInt32 := [1779033703, 3144134277, 1013904242, 2773480762, 1359893119, 2600822924, 528734635, 1541459225]

def word (b : List UInt8) (t : Nat) : UInt32 := (((b.getD (4 * t) 0).toUInt32 <<< 8 ||| (b.getD (4 * t + 1) 0).toUInt32) <<< 8 ||| (b.getD (4 * t + 2) 0).toUInt32) <<< 8 ||| (b.getD (4 * t + 3) 0).toUInt32
def sg0 (x : UInt32) : UInt32 := tr x 7 ^^^ tr x 18 ^^^ (x >>> 3)
def sg1 (x : UInt32) : UInt32 := tr x 17 ^^^ tr x 19 ^^^ (x >>> 10)
def next (b : List UInt8) (l : List UInt32) (t : Nat) : UInt32 :=
  if t < 16 then word b t else l.getD (t - 16) 0 + sg0 (l.getD (t - 15) 0) + l.getD (t - 7) 0 + sg1 (l.getD (t - 2) 0)
/-- A block's first so many numbers. -/
def sch (b : List UInt8) : Nat → List UInt32
  | 0 => []
  | t + 1 => sch b t ++ [next b (sch b t) t]
theorem sch_len (b : List UInt8) : ∀ t, (sch b t).length = t
  | 0 => rfl
  | t + 1 => by simp [sch, sch_len b t]
theorem sch_get (b : List UInt8) {i t : Nat} (h : i < t) : (sch b t).getD i 0 = next b (sch b i) i := by
  induction t with
  | zero => omega
  | succ t ih =>
    simp only [sch]
    by_cases hi : i < t
    · rw [← ih hi]; simp [List.getD_eq_getElem?_getD, List.getElem?_append_left, sch_len, hi]
    · obtain rfl : i = t := by omega
      simp [List.getD_eq_getElem?_getD, sch_len]

structure S8 where
  (a b c d e f g h : UInt32)
def S8.l (s : S8) : List UInt32 := [s.a, s.b, s.c, s.d, s.e, s.f, s.g, s.h]
def S8.add (s t : S8) : S8 := ⟨s.a + t.a, s.b + t.b, s.c + t.c, s.d + t.d, s.e + t.e, s.f + t.f, s.g + t.g, s.h + t.h⟩
def t1S (v : S8) (k w : UInt32) : UInt32 := v.h + (tr v.e 6 ^^^ tr v.e 11 ^^^ tr v.e 25) + (v.e &&& v.f ^^^ ~~~v.e &&& v.g) + k + w
def t2S (v : S8) : UInt32 := (tr v.a 2 ^^^ tr v.a 13 ^^^ tr v.a 22) + (v.a &&& v.b ^^^ v.a &&& v.c ^^^ v.b &&& v.c)
def rnd (v : S8) (k w : UInt32) : S8 := ⟨t1S v k w + t2S v, v.a, v.b, v.c, v.d + t1S v k w, v.e, v.f, v.g⟩
def rnds (b : List UInt8) (v : S8) : Nat → S8
  | 0 => v
  | t + 1 => rnd (rnds b v t) (kS.getD t 0) ((sch b 64).getD t 0)
/-- The eight numbers behind a block. -/
def blkS (s : S8) (b : List UInt8) : S8 := s.add (rnds b s 64)
def h0S : S8 := ⟨1779033703, 3144134277, 1013904242, 2773480762, 1359893119, 2600822924, 528734635, 1541459225⟩

end Go.Fw

end
