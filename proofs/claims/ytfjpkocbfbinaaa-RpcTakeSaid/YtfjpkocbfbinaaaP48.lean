/- The abstract machine, and the contracts of the code: part 48. -/
import Derived.Test.YtfjpkocbfbinaaaP47
set_option linter.unusedVariables false
set_option linter.unusedSimpArgs false

section
namespace Go.Fw
open Go Go.Proofs
theorem kA_of (c : UInt8) : (c = 1 ∧ kA c = 1) ∨ (c ≠ 1 ∧ c = 2 ∧ kA c = 2) ∨ (c ≠ 1 ∧ c ≠ 2 ∧ c = 5 ∧ kA c = 2) ∨ (c ≠ 1 ∧ c ≠ 2 ∧ c ≠ 5 ∧ c = 9 ∧ kA c = 2) ∨ (c ≠ 1 ∧ c ≠ 2 ∧ c ≠ 5 ∧ c ≠ 9 ∧ c = 3 ∧ kA c = 3) ∨ (c ≠ 1 ∧ c ≠ 2 ∧ c ≠ 5 ∧ c ≠ 9 ∧ c ≠ 3 ∧ c = 4 ∧ kA c = 4) ∨ (c ≠ 1 ∧ c ≠ 2 ∧ c ≠ 5 ∧ c ≠ 9 ∧ c ≠ 3 ∧ c ≠ 4 ∧ c = 6 ∧ kA c = 5) ∨ (c ≠ 1 ∧ c ≠ 2 ∧ c ≠ 5 ∧ c ≠ 9 ∧ c ≠ 3 ∧ c ≠ 4 ∧ c ≠ 6 ∧ c = 7 ∧ kA c = 6) ∨ (c ≠ 1 ∧ c ≠ 2 ∧ c ≠ 5 ∧ c ≠ 9 ∧ c ≠ 3 ∧ c ≠ 4 ∧ c ≠ 6 ∧ c ≠ 7 ∧ c = 8 ∧ kA c = 7) ∨ (c ≠ 1 ∧ c ≠ 2 ∧ c ≠ 5 ∧ c ≠ 9 ∧ c ≠ 3 ∧ c ≠ 4 ∧ c ≠ 6 ∧ c ≠ 7 ∧ c ≠ 8 ∧ c = 10 ∧ kA c = 8) ∨ (c ≠ 1 ∧ c ≠ 2 ∧ c ≠ 5 ∧ c ≠ 9 ∧ c ≠ 3 ∧ c ≠ 4 ∧ c ≠ 6 ∧ c ≠ 7 ∧ c ≠ 8 ∧ c ≠ 10 ∧ kA c = 0) := by
 by_cases h1 : c = 1
 · subst h1; exact .inl ⟨rfl, rfl⟩
 by_cases h2 : c = 2
 · subst h2; exact .inr (.inl ⟨h1, rfl, rfl⟩)
 by_cases h5 : c = 5
 · subst h5; exact .inr (.inr (.inl ⟨h1, h2, rfl, rfl⟩))
 by_cases h9 : c = 9
 · subst h9; exact .inr (.inr (.inr (.inl ⟨h1, h2, h5, rfl, rfl⟩)))
 by_cases h3 : c = 3
 · subst h3; exact .inr (.inr (.inr (.inr (.inl ⟨h1, h2, h5, h9, rfl, rfl⟩))))
 by_cases h4 : c = 4
 · subst h4; exact .inr (.inr (.inr (.inr (.inr (.inl ⟨h1, h2, h5, h9, h3, rfl, rfl⟩)))))
 by_cases h6 : c = 6
 · subst h6; exact .inr (.inr (.inr (.inr (.inr (.inr (.inl ⟨h1, h2, h5, h9, h3, h4, rfl, rfl⟩))))))
 by_cases h7 : c = 7
 · subst h7; exact .inr (.inr (.inr (.inr (.inr (.inr (.inr (.inl ⟨h1, h2, h5, h9, h3, h4, h6, rfl, rfl⟩)))))))
 by_cases h8 : c = 8
 · subst h8; exact .inr (.inr (.inr (.inr (.inr (.inr (.inr (.inr (.inl ⟨h1, h2, h5, h9, h3, h4, h6, h7, rfl, rfl⟩))))))))
 by_cases h10 : c = 10
 · subst h10; exact .inr (.inr (.inr (.inr (.inr (.inr (.inr (.inr (.inr (.inl ⟨h1, h2, h5, h9, h3, h4, h6, h7, h8, rfl, rfl⟩)))))))))
 exact .inr (.inr (.inr (.inr (.inr (.inr (.inr (.inr (.inr (.inr (⟨h1, h2, h5, h9, h3, h4, h6, h7, h8, h10, by unfold kA; simp [h1, h2, h5, h9, h3, h4, h6, h7, h8, h10]⟩))))))))))
def bareN (op : UInt8) : T := .st [.int .u8 (op.toNat : Int), .int .i64 0, .ba 32 (zby 32), .int .u32 0, .ar 4 1 [.int .u64 0, .int .u64 0, .int .u64 0, .int .u64 0], .int .u64 0, .bool false, .by [], .nil, .ar 5 1 [.int .u32 0, .int .u32 0, .int .u32 0, .int .u32 0, .int .u32 0], .nil]
theorem bareN_inj (a b : UInt8) (h : bareN a = bareN b) : a = b := by
 unfold bareN at h
 simp only [T.st.injEq, List.cons.injEq, T.int.injEq, true_and, and_true] at h
 exact n8_inj h
theorem bareN_S (op : UInt8) : Blk.bx (.t (bareN op)) = ansS (bareA op 0) .nil .nil := rfl
def boxE (a : TA) (k : Nat) (N : T) : Blk := .bx (.st [.t (.int .u8 (a.op.toNat : Int)), .t (.int .i64 a.e), .t (.ba 32 a.name.1), .t (.int .u32 (a.hgt.toNat : Int)), .t (wT a.work), .t (.int .u64 (a.val.toNat : Int)), .t (.bool a.fst), .t (.by a.bts), .own k, .t (.ar 5 1 (a.nums.1.map nT)), .t N])
def boxN (a : TA) (k : Nat) (E : T) : Blk := .bx (.st [.t (.int .u8 (a.op.toNat : Int)), .t (.int .i64 a.e), .t (.ba 32 a.name.1), .t (.int .u32 (a.hgt.toNat : Int)), .t (wT a.work), .t (.int .u64 (a.val.toNat : Int)), .t (.bool a.fst), .t (.by a.bts), .t E, .t (.ar 5 1 (a.nums.1.map nT)), .own k])
def wA (l : List UInt8) (a : TA) : Nat → Option (List Blk × AV)
 | 0 => some ([.bx (.st [.own 1]), .by l, .bx (.t (aT a))], .tup [])
 | 1 => some ([.bx (.st [.own 3]), .no, .bx (.t (aT a)), .by (l ++ bodyAK 1 a)], .tup [])
 | 2 => some ([.bx (.st [.own 3]), .by l, .bx (.t (aT a)), .by (l ++ bodyAK 2 a)], .tup [])
 | 3 => some ([.bx (.st [.own 3]), .by l, .bx (.t (aT a)), .by (l ++ bodyAK 3 a)], .tup [])
 | 4 => some ([.bx (.st [.own 3]), .by l, .bx (.t (aT a)), .by (l ++ bodyAK 4 a)], .tup [])
 | 5 => some ([.bx (.st [.own 3]), .by l, boxE a 4 (.sq 32 (a.nams.map hT)), .by (l ++ bodyAK 5 a), .sq 69 (a.ents.map eT)], .tup [])
 | 6 => some ([.bx (.st [.own 3]), .by l, .bx (.t (aT a)), .by (l ++ bodyAK 6 a)], .tup [])
 | 7 => some ([.bx (.st [.own 3]), .no, .bx (.t (aT a)), .by (l ++ bodyAK 7 a)], .tup [])
 | 8 => some ([.bx (.st [.own 3]), .by l, boxN a 4 (.sq 69 (a.ents.map eT)), .by (l ++ bodyAK 8 a), .sq 32 (a.nams.map hT)], .tup [])
 | _ => none
def rA (r : TA × RSt) : Nat → Option (List Blk × AV)
 | 5 => some ([rX r.2, boxE r.1 2 .nil, .sq 69 (r.1.ents.map eT)], .tup [])
 | 8 => some ([rX r.2, boxN r.1 2 .nil, .sq 32 (r.1.nams.map hT)], .tup [])
 | _ => some ([rX r.2, ansS r.1 .nil .nil], .tup [])
noncomputable def G35a : GFun
 | [.bx (.st [.own 1]), .by l, .bx (.t y)], [.st [.clo f1 [.ptr 0 0 []], .clo f2 [.ptr 0 0 []], .clo f3 [.ptr 0 0 []], .clo f4 [.ptr 0 0 []], .clo f5 [.ptr 0 0 []], .clo f6 [.ptr 0 0 []], .clo f7 [.ptr 0 0 []], .clo f8 [.ptr 0 0 []]], .ptr 2 0 []] => match inv aT y with
   | some a => if (f1 = 1000039 ∧ f2 = 1000040 ∧ f3 = 1000041 ∧ f4 = 1000042 ∧ f5 = 1000043 ∧ f6 = 1000044 ∧ f7 = 1000045 ∧ f8 = 1000046) ∧ l.length ≤ 100 ∧ a.bts.length ≤ 1000000 ∧ a.ents.length ≤ 1000 ∧ a.nams.length ≤ 1000 then wA l a (kA a.op) else none
   | none => none
 | [.bx (.t (.st [.by b, .bool w])), .bx (.t y)], [.st [.clo f1 [.ptr 0 0 []], .clo f2 [.ptr 0 0 []], .clo f3 [.ptr 0 0 []], .clo f4 [.ptr 0 0 []], .clo f5 [.ptr 0 0 []], .clo f6 [.ptr 0 0 []], .clo f7 [.ptr 0 0 []], .clo f8 [.ptr 0 0 []]], .ptr 1 0 []] => match inv bareN y with
   | some op => if (f1 = 1000071 ∧ f2 = 1000072 ∧ f3 = 1000073 ∧ f4 = 1000074 ∧ f5 = 1000075 ∧ f6 = 1000076 ∧ f7 = 1000077 ∧ f8 = 1000078) ∧ w = false ∧ b.length ≤ 549755000000 then rA (rdAK op (kA op) ⟨b, 0⟩) (kA op) else none
   | none => none
 | _, _ => none
theorem ct35a : CT [(39, ⟨[true, true], G39a⟩), (40, ⟨[true, true], G40a⟩), (41, ⟨[true, true], G41a⟩), (42, ⟨[true, true], G42a⟩), (43, ⟨[true, true], G43a⟩), (44, ⟨[true, true], G44a⟩), (45, ⟨[true, true], G45a⟩), (46, ⟨[true, false, false], G46a⟩), (57, ⟨[false], treeG F57o⟩), (58, ⟨[true, true], G58a⟩), (59, ⟨[false], treeG F59o⟩), (71, ⟨[true, true], G71a⟩), (72, ⟨[true, true], G72a⟩), (73, ⟨[true, true], G73a⟩), (74, ⟨[true, true], G74a⟩), (75, ⟨[true, true], G75a⟩), (76, ⟨[true, true], G76a⟩), (77, ⟨[true, true], G77a⟩), (78, ⟨[true, false, false], G78a⟩)] [0, 1, 2, 4, 5, 6, 7, 8, 12, 13, 33, 43, 69, 83, 115, 116, 117, 128, 130, 131, 142, 150, 182, 183, 184] [(3, [⟨0, [2], [], []⟩, ⟨1, [15], [], []⟩, ⟨0, [1], [], []⟩, ⟨0, [17], [], []⟩, ⟨0, [18], [], []⟩, ⟨2, [16, 19], [1], []⟩]), (4, [⟨0, [2], [], []⟩, ⟨1, [21], [], []⟩, ⟨0, [1], [], []⟩, ⟨0, [23], [], []⟩, ⟨0, [24], [], []⟩, ⟨2, [22, 25], [1], []⟩]), (5, [⟨0, [2], [], []⟩, ⟨1, [27], [], []⟩, ⟨0, [1], [], []⟩, ⟨0, [29], [], []⟩, ⟨0, [30], [], []⟩, ⟨2, [28, 31], [1], []⟩]), (9, [⟨0, [2], [], []⟩, ⟨1, [37], [], []⟩, ⟨0, [1], [], []⟩, ⟨0, [39], [], []⟩, ⟨0, [40], [], []⟩, ⟨2, [38, 41], [1], []⟩]), (11, [⟨0, [2], [], []⟩, ⟨1, [45], [], []⟩, ⟨0, [1], [], []⟩, ⟨0, [47], [], []⟩, ⟨0, [48], [], []⟩, ⟨2, [46, 49], [1], []⟩]), (12, [⟨0, [2], [], []⟩, ⟨1, [51], [], []⟩, ⟨0, [1], [], []⟩, ⟨0, [53], [], []⟩, ⟨0, [54], [], []⟩, ⟨2, [52, 55], [1], []⟩]), (13, [⟨0, [2], [], []⟩, ⟨1, [57], [], []⟩, ⟨0, [1], [], []⟩, ⟨0, [59], [], []⟩, ⟨0, [60], [], []⟩, ⟨2, [58, 61], [1], []⟩]), (14, [⟨0, [2], [], []⟩, ⟨1, [63], [], []⟩, ⟨0, [1], [], []⟩, ⟨0, [65], [], []⟩, ⟨0, [66], [], []⟩, ⟨2, [64, 67], [1], []⟩]), (16, [⟨0, [2], [], []⟩, ⟨1, [71], [], []⟩, ⟨0, [1], [], []⟩, ⟨0, [73], [], []⟩, ⟨0, [74], [], []⟩, ⟨2, [72, 75], [1], []⟩]), (17, [⟨0, [2], [], []⟩, ⟨1, [77], [], []⟩, ⟨0, [1], [], []⟩, ⟨0, [79], [], []⟩, ⟨0, [80], [], []⟩, ⟨2, [78, 81], [1], []⟩]), (19, [⟨0, [2], [], []⟩, ⟨1, [85], [], []⟩, ⟨0, [1], [], []⟩, ⟨0, [87], [], []⟩, ⟨0, [88], [], []⟩, ⟨1, [89], [], []⟩, ⟨1, [90], [5], []⟩, ⟨2, [86, 91], [1, 5, 6], []⟩, ⟨0, [92], [1, 5, 6, 7], []⟩]), (20, [⟨0, [1], [], []⟩, ⟨0, [1], [], []⟩, ⟨0, [94], [], []⟩, ⟨0, [95], [], []⟩, ⟨1, [96], [], []⟩, ⟨1, [97], [4], []⟩, ⟨0, [4], [], []⟩, ⟨0, [4], [], []⟩, ⟨0, [1], [], []⟩, ⟨0, [101], [], []⟩, ⟨0, [102], [], []⟩, ⟨1, [103], [], []⟩, ⟨1, [104], [11], []⟩, ⟨1, [100, 105], [11, 12], []⟩, ⟨0, [99, 106], [11, 12, 13], []⟩, ⟨2, [98, 107], [4, 5, 11, 12, 13], []⟩, ⟨0, [93], [4, 5, 11, 12, 13, 15], []⟩, ⟨0, [109], [4, 5, 11, 12, 13, 15], []⟩, ⟨2, [108, 110], [4, 5, 11, 12, 13, 15], []⟩]), (24, [⟨1, [2], [], []⟩, ⟨0, [1], [], []⟩, ⟨0, [120], [], []⟩, ⟨0, [121], [], []⟩, ⟨1, [122], [], []⟩, ⟨0, [5], [], []⟩, ⟨1, [123, 124], [4], []⟩, ⟨2, [119, 125], [0, 4, 6], []⟩]), (30, [⟨0, [2], [], []⟩, ⟨1, [133], [], []⟩, ⟨0, [1], [], []⟩, ⟨0, [6], [], []⟩, ⟨0, [135], [], []⟩, ⟨0, [137], [], []⟩, ⟨1, [136, 138], [], []⟩, ⟨2, [134, 139], [1, 6], []⟩]), (33, [⟨0, [2], [], []⟩, ⟨1, [144], [], []⟩, ⟨0, [1], [], []⟩, ⟨0, [146], [], []⟩, ⟨0, [147], [], []⟩, ⟨2, [145, 148], [1], []⟩]), (35, [⟨0, [2], [], []⟩, ⟨1, [152], [], []⟩, ⟨0, [1], [], []⟩, ⟨0, [154], [], []⟩, ⟨0, [155], [], []⟩, ⟨1, [156], [], []⟩, ⟨1, [157], [5], []⟩, ⟨2, [153, 158], [1, 5, 6], []⟩, ⟨0, [159], [1, 5, 6, 7], []⟩]), (36, [⟨0, [1], [], []⟩, ⟨0, [1], [], []⟩, ⟨0, [161], [], []⟩, ⟨0, [162], [], []⟩, ⟨1, [163], [], []⟩, ⟨1, [164], [4], []⟩, ⟨0, [7], [], []⟩, ⟨0, [7], [], []⟩, ⟨0, [1], [], []⟩, ⟨0, [168], [], []⟩, ⟨0, [169], [], []⟩, ⟨1, [170], [], []⟩, ⟨1, [171], [11], []⟩, ⟨1, [167, 172], [11, 12], []⟩, ⟨0, [166, 173], [11, 12, 13], []⟩, ⟨2, [165, 174], [4, 5, 11, 12, 13], []⟩, ⟨0, [160], [4, 5, 11, 12, 13, 15], []⟩, ⟨0, [176], [4, 5, 11, 12, 13, 15], []⟩, ⟨2, [175, 177], [4, 5, 11, 12, 13, 15], []⟩]), (40, [⟨0, [2], [], []⟩, ⟨1, [186], [], []⟩, ⟨0, [1], [], []⟩, ⟨0, [188], [], []⟩, ⟨0, [189], [], []⟩, ⟨1, [190], [], []⟩, ⟨0, [8], [], []⟩, ⟨1, [191, 192], [5], []⟩, ⟨2, [187, 193], [1, 5, 7], []⟩])] := ⟨(.cons g39a (.cons g40a (.cons g41a (.cons g42a (.cons g43a (.cons g44a (.cons g45a (.cons g46a (.cons c57o.g (.cons g58a (.cons c59o.g (.cons g71a (.cons g72a (.cons g73a (.cons g74a (.cons g75a (.cons g76a (.cons g77a (.cons g78a (.nil _))))))))))))))))))))⟩
theorem ansS_aT (a : TA) : Blk.bx (.t (aT a)) = ansS a (.sq 69 (a.ents.map eT)) (.sq 32 (a.nams.map hT)) := rfl
theorem tBts_len9 (b : List UInt8) : (tBts b).2.1.length ≤ b.length := (lim_len b 40000).2
theorem t8_len9 (b : List UInt8) : (t8 b).2.1.length ≤ b.length := spB_len b 1
theorem tFl_len (b : List UInt8) : (tFl b).2.1.length ≤ b.length := by
 have := t8_len9 b
 unfold tFl; split <;> exact this
theorem tCnt_len9 (m : Nat) (b : List UInt8) : (tCnt m b).2.1.length ≤ b.length := bnd_len _ _
theorem rdCnt_le (m : Nat) (s : RSt) : (rd (tCnt m) 0 s).1 ≤ m := cnt_most true m s
theorem rdE_len {s : RSt} {n : Nat} (hs : s.b.length ≤ n) : (rdE s).2.b.length ≤ n := by
 unfold rdE
 dsimp only
 exact sW_len (d := zH) tH_len (sW_len (d := 0) t32_len (rdNum_len (rdNum_len (sW_len (d := 0) t64_len (sW_len (d := 0) t32_len (sW_len (d := zH) tH_len hs))))))
theorem rdE_sW (s : RSt) : (rdE (sW s.b (decide (s.e ≠ 0)))).1 = (rdE s).1 ∧ rX (rdE (sW s.b (decide (s.e ≠ 0)))).2 = rX (rdE s).2 := by
 obtain ⟨b, e⟩ := s
 by_cases he : e = 0
 · subst he; exact ⟨rfl, rfl⟩
 · have h : ∀ e : Int, e ≠ 0 → rdE ⟨b, e⟩ = (dE, ⟨b, e⟩) := fun e he => by
     have r1 : ∀ {α : Type} (t : List UInt8 → α × List UInt8 × Int) (d : α), rd t d ⟨b, e⟩ = (d, ⟨b, e⟩) := fun t d => if_pos he
     have r2 : rdNum ⟨b, e⟩ = (0, ⟨b, e⟩) := by
       unfold rdNum
       rw [r1]; rfl
     unfold rdE
     simp only [r1, r2]; rfl
   have h2 : decide (e ≠ 0) = true := decide_eq_true he
   dsimp only
   rw [h2, h e he]
   have h3 : rdE (sW b true) = (dE, sW b true) := h 1 (by decide)
   rw [h3]
   exact ⟨rfl, by show _ = Blk.bx (.t (.st [.by b, .bool (decide (e ≠ 0))])); rw [h2]; rfl⟩
theorem rep_set (l : List T) (z y : T) {i n : Nat} (hl : l.length = i) (hi : i < n) : (l ++ List.replicate (n - i) z).set i y = l ++ [y] ++ List.replicate (n - (i + 1)) z := by
 rw [List.set_append_right _ _ (by omega), show n - i = (n - (i + 1)) + 1 by omega, List.replicate_succ, hl, Nat.sub_self, List.set_cons_zero, List.append_assoc]; rfl
theorem rep_get (l : List T) (z : T) {i n : Nat} (hl : l.length = i) (hi : i < n) : (l ++ List.replicate (n - i) z).getD i default = z := by
 rw [List.getD_eq_getElem?_getD, List.getElem?_append_right (by omega), hl, Nat.sub_self, List.getElem?_replicate, if_pos (by omega)]; rfl
theorem set_same9 {l : List T} {i : Nat} {y : T} (hi : i < l.length) (h : l.getD i default = y) : l.set i y = l := by
 apply List.ext_getElem?
 intro k
 rw [List.getElem?_set]
 split
 · rename_i hk; subst hk; subst h; simp [hi]
 · rfl
theorem ent_getD (l : List TE) (k : Nat) (h : k < l.length) : (l.map eT).getD k default = eT (l.getD k dE) := by simp [h]
theorem nam_getD (l : List H32) (k : Nat) (h : k < l.length) : (l.map hT).getD k default = hT (l.getD k zH) := by simp [h]
set_option maxRecDepth 20000 in
set_option maxHeartbeats 16000000 in
theorem g35a : GCon Try.prog 35 G35a := by
 refine gconc E_ok (rs := []) Try.func35 rfl Try.ntmps35 (by kernel_rfl) rfl (by decide) G35a (np := 2) ?_ ?_
 · intro HB xs h; unfold G35a; split <;> first | rfl | (simp at h; done)
 intro HB xs H r hG hwf hex
 unfold G35a at hG
 split at hG <;> try (cases hG; done)
 
 · rename_i l y f1 f2 f3 f4 f5 f6 f7 f8
   split at hG <;> try (cases hG; done)
   rename_i a ha
   split at hG
   case isFalse => cases hG
   rename_i hc
   obtain ⟨⟨rfl, rfl, rfl, rfl, rfl, rfl, rfl, rfl⟩, hl, hx, hle, hln⟩ := hc
   obtain rfl := inv_inv ha
   have hn1 := a.name.2
   have hn2 := (wB a.work).2
   have hS := ansS_aT a
   have hop : ∃ c, a.op = c := ⟨_, rfl⟩
   obtain ⟨c, hop⟩ := hop
   rw [hop] at hG
   rw [hS]
   simp only [ansS_eq, hop]
   generalize hE : T.sq 69 (a.ents.map eT) = E
   generalize hN : T.sq 32 (a.nams.map hT) = N
   rcases kA_of c with ⟨a1, hk⟩ | ⟨a1, a2, hk⟩ | ⟨a1, a2, a5, hk⟩ | ⟨a1, a2, a5, a9, hk⟩ | ⟨a1, a2, a5, a9, a3, hk⟩ | ⟨a1, a2, a5, a9, a3, a4, hk⟩ | ⟨a1, a2, a5, a9, a3, a4, a6, hk⟩ | ⟨a1, a2, a5, a9, a3, a4, a6, a7, hk⟩ | ⟨a1, a2, a5, a9, a3, a4, a6, a7, a8, hk⟩ | ⟨a1, a2, a5, a9, a3, a4, a6, a7, a8, a10, hk⟩ | ⟨a1, a2, a5, a9, a3, a4, a6, a7, a8, a10, hk⟩
   · rw [hk] at hG
     simp only [wA] at hG
     cases hG
     have d1 : ((c.toNat : Int) == 1) = true := c8_eq 1 a1
     clear a1
     have w1 := wname_a (l := l) (ansS_name a E N).1 ⟨hn1, by omega⟩
     have w2 := wshort_a (l := l ++ a.name.1) (ansS_hgt a E N).1 (by simp; omega)
     have w3 := wwork_a (l := l ++ a.name.1 ++ le 4 (a.hgt.toNat : Int)) (ansS_work a E N).1 (by simp [le_len]; omega)
     simp only [wOld, wNew, ansS_eq, hop, wT_st] at w1 w2 w3
     simp only [wT_st]
     repeat refine St (And.intro (And.intro @gentry.eq_1 <| @gentry.eq_2) <| And.intro d1 <| And.intro w1 <| And.intro w2 <| And.intro w3 <| @Nat.zero_add) ct35a ?_
     exact Fin (And.intro @aT_st <| And.intro @bodyAK.eq_def <| And.intro @btsB.eq_def <| And.intro @n4B.eq_def <| And.intro @ansS_eq <| And.intro @wT_st <| And.intro hop <| And.intro hE <| And.intro hN <| @List.append_assoc.{0}) [] [0, 1, 2, 6]
   · rw [hk] at hG
     simp only [wA] at hG
     cases hG
     have d1 : ((c.toNat : Int) == 1) = false := c8_ne 1 a1
     have d2 : ((c.toNat : Int) == 2) = true := c8_eq 2 a2
     clear a1 a2
     have w1 := wtext_a (l := l) (ansS_bts a E N).1 (by omega)
     simp only [wOld, wNew, ansS_eq, hop, wT_st] at w1
     simp only [wT_st]
     repeat refine St (And.intro (And.intro @gentry.eq_1 <| @gentry.eq_2) <| And.intro d1 <| And.intro d2 <| And.intro w1 <| @Nat.zero_add) ct35a ?_
     exact Fin (And.intro @aT_st <| And.intro @bodyAK.eq_def <| And.intro @btsB.eq_def <| And.intro @n4B.eq_def <| And.intro @ansS_eq <| And.intro @wT_st <| And.intro hop <| And.intro hE <| And.intro hN <| @List.append_assoc.{0}) [] [0, 1, 2, 4]
   · rw [hk] at hG
     simp only [wA] at hG
     cases hG
     have d1 : ((c.toNat : Int) == 1) = false := c8_ne 1 a1
     have d2 : ((c.toNat : Int) == 2) = false := c8_ne 2 a2
     have d5 : ((c.toNat : Int) == 5) = true := c8_eq 5 a5
     clear a1 a2 a5
     have w1 := wtext_a (l := l) (ansS_bts a E N).1 (by omega)
     simp only [wOld, wNew, ansS_eq, hop, wT_st] at w1
     simp only [wT_st]
     repeat refine St (And.intro (And.intro @gentry.eq_1 <| @gentry.eq_2) <| And.intro d1 <| And.intro d2 <| And.intro d5 <| And.intro w1 <| @Nat.zero_add) ct35a ?_
     exact Fin (And.intro @aT_st <| And.intro @bodyAK.eq_def <| And.intro @btsB.eq_def <| And.intro @n4B.eq_def <| And.intro @ansS_eq <| And.intro @wT_st <| And.intro hop <| And.intro hE <| And.intro hN <| @List.append_assoc.{0}) [] [0, 1, 2, 4]
   · rw [hk] at hG
     simp only [wA] at hG
     cases hG
     have d1 : ((c.toNat : Int) == 1) = false := c8_ne 1 a1
     have d2 : ((c.toNat : Int) == 2) = false := c8_ne 2 a2
     have d5 : ((c.toNat : Int) == 5) = false := c8_ne 5 a5
     have d9 : ((c.toNat : Int) == 9) = true := c8_eq 9 a9
     clear a1 a2 a5 a9
     have w1 := wtext_a (l := l) (ansS_bts a E N).1 (by omega)
     simp only [wOld, wNew, ansS_eq, hop, wT_st] at w1
     simp only [wT_st]
     repeat refine St (And.intro (And.intro @gentry.eq_1 <| @gentry.eq_2) <| And.intro d1 <| And.intro d2 <| And.intro d5 <| And.intro d9 <| And.intro w1 <| @Nat.zero_add) ct35a ?_
     exact Fin (And.intro @aT_st <| And.intro @bodyAK.eq_def <| And.intro @btsB.eq_def <| And.intro @n4B.eq_def <| And.intro @ansS_eq <| And.intro @wT_st <| And.intro hop <| And.intro hE <| And.intro hN <| @List.append_assoc.{0}) [] [0, 1, 2, 4]
   · rw [hk] at hG
     simp only [wA] at hG
     cases hG
     have d1 : ((c.toNat : Int) == 1) = false := c8_ne 1 a1
     have d2 : ((c.toNat : Int) == 2) = false := c8_ne 2 a2
     have d5 : ((c.toNat : Int) == 5) = false := c8_ne 5 a5
     have d9 : ((c.toNat : Int) == 9) = false := c8_ne 9 a9
     have d3 : ((c.toNat : Int) == 3) = true := c8_eq 3 a3
     clear a1 a2 a5 a9 a3
     have w1 := wlong_a (l := l) (ansS_val a E N).1 (by omega)
     have w2 := wshort_a (l := l ++ le 8 (a.val.toNat : Int)) (ansS_hgt a E N).1 (by simp [le_len]; omega)
     have w3 := wflag_a (l := l ++ le 8 (a.val.toNat : Int) ++ le 4 (a.hgt.toNat : Int)) (ansS_fst a E N).1 (by simp [le_len]; omega)
     have w4 := wtext_a (l := l ++ le 8 (a.val.toNat : Int) ++ le 4 (a.hgt.toNat : Int) ++ flagB a.fst) (ansS_bts a E N).1 (by simp [le_len, flagB]; omega)
     simp only [wOld, wNew, ansS_eq, hop, wT_st] at w1 w2 w3 w4
     simp only [wT_st]
     repeat refine St (And.intro (And.intro @gentry.eq_1 <| @gentry.eq_2) <| And.intro d1 <| And.intro d2 <| And.intro d5 <| And.intro d9 <| And.intro d3 <| And.intro w1 <| And.intro w2 <| And.intro w3 <| And.intro w4 <| @Nat.zero_add) ct35a ?_
     exact Fin (And.intro @aT_st <| And.intro @bodyAK.eq_def <| And.intro @btsB.eq_def <| And.intro @n4B.eq_def <| And.intro @ansS_eq <| And.intro @wT_st <| And.intro hop <| And.intro hE <| And.intro hN <| @List.append_assoc.{0}) [] [0, 1, 2, 7]
   · rw [hk] at hG
     simp only [wA] at hG
     cases hG
     have d1 : ((c.toNat : Int) == 1) = false := c8_ne 1 a1
     have d2 : ((c.toNat : Int) == 2) = false := c8_ne 2 a2
     have d5 : ((c.toNat : Int) == 5) = false := c8_ne 5 a5
     have d9 : ((c.toNat : Int) == 9) = false := c8_ne 9 a9
     have d3 : ((c.toNat : Int) == 3) = false := c8_ne 3 a3
     have d4 : ((c.toNat : Int) == 4) = true := c8_eq 4 a4
     clear a1 a2 a5 a9 a3 a4
     have w1 := wlong_a (l := l) (ansS_val a E N).1 (by omega)
     have w2 := wtext_a (l := l ++ le 8 (a.val.toNat : Int)) (ansS_bts a E N).1 (by simp [le_len]; omega)
     simp only [wOld, wNew, ansS_eq, hop, wT_st] at w1 w2
     simp only [wT_st]
     repeat refine St (And.intro (And.intro @gentry.eq_1 <| @gentry.eq_2) <| And.intro d1 <| And.intro d2 <| And.intro d5 <| And.intro d9 <| And.intro d3 <| And.intro d4 <| And.intro w1 <| And.intro w2 <| @Nat.zero_add) ct35a ?_
     exact Fin (And.intro @aT_st <| And.intro @bodyAK.eq_def <| And.intro @btsB.eq_def <| And.intro @n4B.eq_def <| And.intro @ansS_eq <| And.intro @wT_st <| And.intro hop <| And.intro hE <| And.intro hN <| @List.append_assoc.{0}) [] [0, 1, 2, 5]
   · rw [hk] at hG
     simp only [wA] at hG
     cases hG
     have d1 : ((c.toNat : Int) == 1) = false := c8_ne 1 a1
     have d2 : ((c.toNat : Int) == 2) = false := c8_ne 2 a2
     have d5 : ((c.toNat : Int) == 5) = false := c8_ne 5 a5
     have d9 : ((c.toNat : Int) == 9) = false := c8_ne 9 a9
     have d3 : ((c.toNat : Int) == 3) = false := c8_ne 3 a3
     have d4 : ((c.toNat : Int) == 4) = false := c8_ne 4 a4
     have d6 : ((c.toNat : Int) == 6) = true := c8_eq 6 a6
     clear a1 a2 a5 a9 a3 a4 a6
     subst hE
     simp only [wT_st]
     have hsb := sizeB_len (a.ents.length : Int)
     have h0 : G46a [.bx (.st [.own 1]), .by l] [.ptr 0 0 [], .t (.int .i64 (a.ents.length : Int)), .t (.int .i64 200)] = some ([.bx (.st [.own 2]), .by l, .by (l ++ sizeB (a.ents.length : Nat))], .t (.int .i64 (a.ents.length : Int))) := if_pos ⟨by omega, by omega⟩
     have hml : (a.ents.map eT).length = a.ents.length := List.length_map ..
     have h3 : F57o [.sq 69 (a.ents.map eT)] = some ([.sq 69 (a.ents.map eT)], .own 0) := if_pos (by rw [hml]; omega)
     have hcl : ∀ i, (cat entB (a.ents.take i)).length ≤ 88000 := fun i => Nat.le_trans (cat_len entB 88 _ fun x _ => by rw [entB_len]; exact Nat.le_refl _) (by rw [List.length_take]; omega)
     have hmin : min (a.ents.length : Int) (a.ents.length : Int) = (a.ents.length : Int) := Int.min_self _
     have hsub : (a.ents.length : Int) - (a.ents.length : Int) = 0 := Int.sub_self _
     have hEs : True := trivial
     have hz69 : ∀ x : T, List.replicate 0 x = [] := fun _ => rfl
     repeat refine St (And.intro (And.intro @gentry.eq_1 <| @gentry.eq_2) <| And.intro d1 <| And.intro d2 <| And.intro d5 <| And.intro d9 <| And.intro d3 <| And.intro d4 <| And.intro d6 <| And.intro h0 <| And.intro h3 <| And.intro hmin <| And.intro hsub <| And.intro hml <| And.intro hml <| And.intro @aAppendZ.eq_def <| And.intro hz69 <| @List.append_nil.{0}) ct35a ?_
     refine AWP.loop (G := { i : Nat // i ≤ a.ents.length }) (fun i => ⟨[(1, .ptr 2 0 []), (2, .ptr 3 0 []), (115, .t (.int .i64 (a.ents.length : Int))), (116, .t (.int .i64 (i.1 : Int)))], [.bx (.st [.own 4]), .by l, .bx (.st [.t (.int .u8 (c.toNat : Int)), .t (.int .i64 a.e), .t (.ba 32 a.name.1), .t (.int .u32 (a.hgt.toNat : Int)), .t (.ar 4 1 [.int .u64 (a.work.a.toNat : Int), .int .u64 (a.work.b.toNat : Int), .int .u64 (a.work.c.toNat : Int), .int .u64 (a.work.d.toNat : Int)]), .t (.int .u64 (a.val.toNat : Int)), .t (.bool a.fst), .t (.by a.bts), .own 5, .t (.ar 5 1 (a.nums.1.map nT)), .t N]), .bx (.st [.clo 1000039 [.ptr 0 0 []], .clo 1000040 [.ptr 0 0 []], .clo 1000041 [.ptr 0 0 []], .clo 1000042 [.ptr 0 0 []], .clo 1000043 [.ptr 0 0 []], .clo 1000044 [.ptr 0 0 []], .clo 1000045 [.ptr 0 0 []], .clo 1000046 [.ptr 0 0 []]]), .by (l ++ sizeB (a.ents.length : Nat) ++ cat entB (a.ents.take i.1)), .sq 69 (a.ents.map eT)]⟩) (fun i => a.ents.length - i.1) ⟨0, by omega⟩ (Wt (And.intro @List.take_zero.{0} <| And.intro @cat_nil <| @List.append_nil.{0}) [1, 2, 115, 116] [0, 1, 2, 3, 4, 6]) ?_
     rintro ⟨i, hi⟩
     dsimp only
     by_cases hlt : i < a.ents.length
     · have hlt2 : (i : Int) < (a.ents.length : Int) := by omega
       have h1 : G58a [.bx (.st [.own 1]), .by (l ++ sizeB (a.ents.length : Nat) ++ cat entB (a.ents.take i)), .sq 69 (a.ents.map eT)] [.st [.clo 1000039 [.ptr 0 0 []], .clo 1000040 [.ptr 0 0 []], .clo 1000041 [.ptr 0 0 []], .clo 1000042 [.ptr 0 0 []], .clo 1000043 [.ptr 0 0 []], .clo 1000044 [.ptr 0 0 []], .clo 1000045 [.ptr 0 0 []], .clo 1000046 [.ptr 0 0 []]], .ptr 2 (i * 69) [i]] = some ([.bx (.st [.own 3]), .no, .sq 69 (a.ents.map eT), .by (l ++ sizeB (a.ents.length : Nat) ++ cat entB (a.ents.take i) ++ entB (a.ents.getD i dE))], .tup []) := by
         simp only [G58a, ent_getD a.ents i hlt, inv_of eT_inj]
         exact if_pos ⟨⟨trivial, trivial, trivial, trivial⟩, by simpa using hlt, trivial, by have := hcl i; simp; omega⟩
       have h2 := cat_take entB dE a.ents i hlt
       have hw : IntKind.i64.wrap ((i : Int) + 1) = ((i + 1 : Nat) : Int) := by rw [wrap_i64 (by omega) (by omega)]; omega
       repeat refine St (And.intro hlt2 <| And.intro hlt <| And.intro h1 <| And.intro hw <| And.intro hml <| hml) ct35a ?_
       exact ⟨⟨i + 1, by omega⟩, (Wt (And.intro h2 <| @List.append_assoc.{0}) [1, 2, 115, 116] [0, 1, 2, 3, 6, 5]), by simp only; omega⟩
     · obtain rfl : i = a.ents.length := by omega
       have hlt2 : ¬ (a.ents.length : Int) < (a.ents.length : Int) := by omega
       rw [List.take_length]
       repeat refine St hlt2 ct35a ?_
       exact Fin (And.intro @boxE.eq_def <| And.intro @bodyAK.eq_def <| And.intro @wT_st <| And.intro hop <| And.intro hN <| @List.append_assoc.{0}) [] [0, 1, 2, 4, 5]
   · rw [hk] at hG
     simp only [wA] at hG
     cases hG
     have d1 : ((c.toNat : Int) == 1) = false := c8_ne 1 a1
     have d2 : ((c.toNat : Int) == 2) = false := c8_ne 2 a2
     have d5 : ((c.toNat : Int) == 5) = false := c8_ne 5 a5
     have d9 : ((c.toNat : Int) == 9) = false := c8_ne 9 a9
     have d3 : ((c.toNat : Int) == 3) = false := c8_ne 3 a3
     have d4 : ((c.toNat : Int) == 4) = false := c8_ne 4 a4
     have d6 : ((c.toNat : Int) == 6) = false := c8_ne 6 a6
     have d7 : ((c.toNat : Int) == 7) = true := c8_eq 7 a7
     clear a1 a2 a5 a9 a3 a4 a6 a7
     simp only [wT_st]
     have hnl := a.nums.2
     generalize hnu : a.nums.1 = nu at *
     have hAn : ∀ (l : List UInt8) (i : Nat), i < 5 → l.length ≤ 1000000 → G40a [.bx (.st [.own 1]), .by l, ansL a nu E N] [.ptr 0 0 [], .ptr 2 (43 + i) [9, i]] = wNew (ansL a nu E N) l (n4B (nu.getD i 0)) := fun l i hi hl =>
       wshort_a (ansL_num a nu E N (by rw [← hE]; rfl) (by omega) rfl).1 (by omega)
     simp only [wNew, ansL, hop, wT_st] at hAn
     have hcl : ∀ i, i ≤ 5 → (cat n4B (nu.take i)).length ≤ 100 := fun i hi => Nat.le_trans (cat_len n4B 4 _ fun x _ => by simp [n4B, le_len]) (by rw [List.length_take]; omega)
     have hst : ∀ i, i < 5 → cat n4B (nu.take (i + 1)) = cat n4B (nu.take i) ++ n4B (nu.getD i 0) := fun i hi => cat_take n4B 0 nu i (by omega)
     repeat refine St (And.intro (And.intro @gentry.eq_1 <| @gentry.eq_2) <| And.intro d1 <| And.intro d2 <| And.intro d5 <| And.intro d9 <| And.intro d3 <| And.intro d4 <| And.intro d6 <| d7) ct35a ?_
     refine AWP.loop (G := { i : Nat // i ≤ 5 }) (fun i => match i.1 with
         | 0 => ⟨[(1, .ptr 2 0 []), (2, .ptr 3 0 []), (130, .t (.int .i64 0))], [.bx (.st [.own 1]), .by l, .bx (.t (.st [.int .u8 (c.toNat : Int), .int .i64 a.e, .ba 32 a.name.1, .int .u32 (a.hgt.toNat : Int), .ar 4 1 [.int .u64 (a.work.a.toNat : Int), .int .u64 (a.work.b.toNat : Int), .int .u64 (a.work.c.toNat : Int), .int .u64 (a.work.d.toNat : Int)], .int .u64 (a.val.toNat : Int), .bool a.fst, .by a.bts, E, .ar 5 1 (nu.map nT), N])), .bx (.st [.clo 1000039 [.ptr 0 0 []], .clo 1000040 [.ptr 0 0 []], .clo 1000041 [.ptr 0 0 []], .clo 1000042 [.ptr 0 0 []], .clo 1000043 [.ptr 0 0 []], .clo 1000044 [.ptr 0 0 []], .clo 1000045 [.ptr 0 0 []], .clo 1000046 [.ptr 0 0 []]])]⟩
         | i + 1 => ⟨[(1, .ptr 2 0 []), (2, .ptr 3 0 []), (130, .t (.int .i64 ((i + 1 : Nat) : Int)))], [.bx (.st [.own 4]), .by l, .bx (.t (.st [.int .u8 (c.toNat : Int), .int .i64 a.e, .ba 32 a.name.1, .int .u32 (a.hgt.toNat : Int), .ar 4 1 [.int .u64 (a.work.a.toNat : Int), .int .u64 (a.work.b.toNat : Int), .int .u64 (a.work.c.toNat : Int), .int .u64 (a.work.d.toNat : Int)], .int .u64 (a.val.toNat : Int), .bool a.fst, .by a.bts, E, .ar 5 1 (nu.map nT), N])), .bx (.st [.clo 1000039 [.ptr 0 0 []], .clo 1000040 [.ptr 0 0 []], .clo 1000041 [.ptr 0 0 []], .clo 1000042 [.ptr 0 0 []], .clo 1000043 [.ptr 0 0 []], .clo 1000044 [.ptr 0 0 []], .clo 1000045 [.ptr 0 0 []], .clo 1000046 [.ptr 0 0 []]]), .by (l ++ cat n4B (nu.take (i + 1)))]⟩) (fun i => 5 - i.1) ⟨0, by omega⟩ (Wt trivial [1, 2, 130] [0, 1, 2, 3]) ?_
     rintro ⟨i, hi⟩
     dsimp only
     cases i with
     | zero =>
       dsimp only
       have h1 := hAn l 0 (by omega) (by omega)
       have h2 := hst 0 (by omega)
       have h2' : cat n4B (nu.take 1) = n4B (nu.getD 0 0) := h2
       repeat refine St h1 ct35a ?_
       exact ⟨⟨1, by omega⟩, (Wt h2' [1, 2, 130] [0, 1, 2, 3, 4]), by simp only; omega⟩
     | succ i =>
       dsimp only
       by_cases hlt : i + 1 < 5
       · have hlt2 : ((i + 1 : Nat) : Int) < 5 := by omega
         have h1 := hAn (l ++ cat n4B (nu.take (i + 1))) (i + 1) hlt (by have := hcl (i + 1) (by omega); simp; omega)
         have h2 := hst (i + 1) hlt
         have hw : IntKind.i64.wrap (((i + 1 : Nat) : Int) + 1) = ((i + 1 + 1 : Nat) : Int) := by rw [wrap_i64 (by omega) (by omega)]; omega
         repeat refine St (And.intro hlt2 <| And.intro hlt <| And.intro h1 <| hw) ct35a ?_
         exact ⟨⟨i + 1 + 1, by omega⟩, (Wt (And.intro h2 <| @List.append_assoc.{0}) [1, 2, 130] [0, 1, 2, 3, 5]), by simp only; omega⟩
       · obtain rfl : i = 4 := by omega
         have hlt2 : ¬ ((4 + 1 : Nat) : Int) < 5 := by omega
         have hfin : nu.take (4 + 1) = nu := List.take_of_length_le (by omega)
         rw [hfin]
         repeat refine St hlt2 ct35a ?_
         exact Fin (And.intro @aT_st <| And.intro @bodyAK.eq_def <| And.intro @wT_st <| And.intro hop <| And.intro hE <| And.intro hN <| hnu) [] [0, 1, 2, 4]
   · rw [hk] at hG
     simp only [wA] at hG
     cases hG
     have d1 : ((c.toNat : Int) == 1) = false := c8_ne 1 a1
     have d2 : ((c.toNat : Int) == 2) = false := c8_ne 2 a2
     have d5 : ((c.toNat : Int) == 5) = false := c8_ne 5 a5
     have d9 : ((c.toNat : Int) == 9) = false := c8_ne 9 a9
     have d3 : ((c.toNat : Int) == 3) = false := c8_ne 3 a3
     have d4 : ((c.toNat : Int) == 4) = false := c8_ne 4 a4
     have d6 : ((c.toNat : Int) == 6) = false := c8_ne 6 a6
     have d7 : ((c.toNat : Int) == 7) = false := c8_ne 7 a7
     have d8 : ((c.toNat : Int) == 8) = true := c8_eq 8 a8
     clear a1 a2 a5 a9 a3 a4 a6 a7 a8
     have w1 := wname_a (l := l) (ansS_name a E N).1 ⟨hn1, by omega⟩
     simp only [wOld, wNew, ansS_eq, hop, wT_st] at w1
     simp only [wT_st]
     repeat refine St (And.intro (And.intro @gentry.eq_1 <| @gentry.eq_2) <| And.intro d1 <| And.intro d2 <| And.intro d5 <| And.intro d9 <| And.intro d3 <| And.intro d4 <| And.intro d6 <| And.intro d7 <| And.intro d8 <| And.intro w1 <| @Nat.zero_add) ct35a ?_
     exact Fin (And.intro @aT_st <| And.intro @bodyAK.eq_def <| And.intro @btsB.eq_def <| And.intro @n4B.eq_def <| And.intro @ansS_eq <| And.intro @wT_st <| And.intro hop <| And.intro hE <| And.intro hN <| @List.append_assoc.{0}) [] [0, 1, 2, 4]
   · rw [hk] at hG
     simp only [wA] at hG
     cases hG
     have d1 : ((c.toNat : Int) == 1) = false := c8_ne 1 a1
     have d2 : ((c.toNat : Int) == 2) = false := c8_ne 2 a2
     have d5 : ((c.toNat : Int) == 5) = false := c8_ne 5 a5
     have d9 : ((c.toNat : Int) == 9) = false := c8_ne 9 a9
     have d3 : ((c.toNat : Int) == 3) = false := c8_ne 3 a3
     have d4 : ((c.toNat : Int) == 4) = false := c8_ne 4 a4
     have d6 : ((c.toNat : Int) == 6) = false := c8_ne 6 a6
     have d7 : ((c.toNat : Int) == 7) = false := c8_ne 7 a7
     have d8 : ((c.toNat : Int) == 8) = false := c8_ne 8 a8
     have d10 : ((c.toNat : Int) == 10) = true := c8_eq 10 a10
     clear a1 a2 a5 a9 a3 a4 a6 a7 a8 a10
     subst hN
     simp only [wT_st]
     have hsb := sizeB_len (a.nams.length : Int)
     have h0 : G46a [.bx (.st [.own 1]), .by l] [.ptr 0 0 [], .t (.int .i64 (a.nams.length : Int)), .t (.int .i64 100)] = some ([.bx (.st [.own 2]), .by l, .by (l ++ sizeB (a.nams.length : Nat))], .t (.int .i64 (a.nams.length : Int))) := if_pos ⟨by omega, by omega⟩
     have hml : (a.nams.map hT).length = a.nams.length := List.length_map ..
     have h3 : F59o [.sq 32 (a.nams.map hT)] = some ([.sq 32 (a.nams.map hT)], .own 0) := if_pos (by rw [hml]; omega)
     have hcl : ∀ i, (cat hB (a.nams.take i)).length ≤ 88000 := fun i => Nat.le_trans (cat_len hB 88 _ fun x _ => by show x.1.length ≤ 88; have := x.2; omega) (by rw [List.length_take]; omega)
     have hmin : min (a.nams.length : Int) (a.nams.length : Int) = (a.nams.length : Int) := Int.min_self _
     have hsub : (a.nams.length : Int) - (a.nams.length : Int) = 0 := Int.sub_self _
     have hEs : E.size = 1 := by rw [← hE]; rfl
     have hz69 : ∀ x : T, List.replicate 0 x = [] := fun _ => rfl
     repeat refine St (And.intro (And.intro @gentry.eq_1 <| @gentry.eq_2) <| And.intro d1 <| And.intro d2 <| And.intro d5 <| And.intro d9 <| And.intro d3 <| And.intro d4 <| And.intro d6 <| And.intro d7 <| And.intro d8 <| And.intro d10 <| And.intro h0 <| And.intro h3 <| And.intro hmin <| And.intro hsub <| And.intro hEs <| And.intro hml <| And.intro @aAppendZ.eq_def <| And.intro hz69 <| @List.append_nil.{0}) ct35a ?_
     refine AWP.loop (G := { i : Nat // i ≤ a.nams.length }) (fun i => ⟨[(1, .ptr 2 0 []), (2, .ptr 3 0 []), (182, .t (.int .i64 (a.nams.length : Int))), (183, .t (.int .i64 (i.1 : Int)))], [.bx (.st [.own 4]), .by l, .bx (.st [.t (.int .u8 (c.toNat : Int)), .t (.int .i64 a.e), .t (.ba 32 a.name.1), .t (.int .u32 (a.hgt.toNat : Int)), .t (.ar 4 1 [.int .u64 (a.work.a.toNat : Int), .int .u64 (a.work.b.toNat : Int), .int .u64 (a.work.c.toNat : Int), .int .u64 (a.work.d.toNat : Int)]), .t (.int .u64 (a.val.toNat : Int)), .t (.bool a.fst), .t (.by a.bts), .t E, .t (.ar 5 1 (a.nums.1.map nT)), .own 5]), .bx (.st [.clo 1000039 [.ptr 0 0 []], .clo 1000040 [.ptr 0 0 []], .clo 1000041 [.ptr 0 0 []], .clo 1000042 [.ptr 0 0 []], .clo 1000043 [.ptr 0 0 []], .clo 1000044 [.ptr 0 0 []], .clo 1000045 [.ptr 0 0 []], .clo 1000046 [.ptr 0 0 []]]), .by (l ++ sizeB (a.nams.length : Nat) ++ cat hB (a.nams.take i.1)), .sq 32 (a.nams.map hT)]⟩) (fun i => a.nams.length - i.1) ⟨0, by omega⟩ (Wt (And.intro @List.take_zero.{0} <| And.intro @cat_nil <| @List.append_nil.{0}) [1, 2, 182, 183] [0, 1, 2, 3, 4, 6]) ?_
     rintro ⟨i, hi⟩
     dsimp only
     by_cases hlt : i < a.nams.length
     · have hlt2 : (i : Int) < (a.nams.length : Int) := by omega
       have h1 := wname_a (l := l ++ sizeB (a.nams.length : Nat) ++ cat hB (a.nams.take i)) (namS_at (l := a.nams.map hT) (i := i) (off := i * 32) (h := a.nams.getD i zH) (by simpa using hlt) (nam_getD a.nams i hlt) rfl) ⟨(a.nams.getD i zH).2, by have := hcl i; simp; omega⟩
       simp only [wOld] at h1
       rw [show (a.nams.getD i zH).1 = hB (a.nams.getD i zH) from rfl] at h1
       have h2 := cat_take hB zH a.nams i hlt
       have hw : IntKind.i64.wrap ((i : Int) + 1) = ((i + 1 : Nat) : Int) := by rw [wrap_i64 (by omega) (by omega)]; omega
       repeat refine St (And.intro hlt2 <| And.intro hlt <| And.intro h1 <| And.intro hw <| And.intro hml <| hEs) ct35a ?_
       exact ⟨⟨i + 1, by omega⟩, (Wt (And.intro h2 <| @List.append_assoc.{0}) [1, 2, 182, 183] [0, 1, 2, 3, 6, 5]), by simp only; omega⟩
     · obtain rfl : i = a.nams.length := by omega
       have hlt2 : ¬ (a.nams.length : Int) < (a.nams.length : Int) := by omega
       rw [List.take_length]
       repeat refine St hlt2 ct35a ?_
       exact Fin (And.intro @boxN.eq_def <| And.intro @bodyAK.eq_def <| And.intro @wT_st <| And.intro hop <| And.intro hE <| @List.append_assoc.{0}) [] [0, 1, 2, 4, 5]
   · rw [hk] at hG
     simp only [wA] at hG
     cases hG
     have d1 : ((c.toNat : Int) == 1) = false := c8_ne 1 a1
     have d2 : ((c.toNat : Int) == 2) = false := c8_ne 2 a2
     have d5 : ((c.toNat : Int) == 5) = false := c8_ne 5 a5
     have d9 : ((c.toNat : Int) == 9) = false := c8_ne 9 a9
     have d3 : ((c.toNat : Int) == 3) = false := c8_ne 3 a3
     have d4 : ((c.toNat : Int) == 4) = false := c8_ne 4 a4
     have d6 : ((c.toNat : Int) == 6) = false := c8_ne 6 a6
     have d7 : ((c.toNat : Int) == 7) = false := c8_ne 7 a7
     have d8 : ((c.toNat : Int) == 8) = false := c8_ne 8 a8
     have d10 : ((c.toNat : Int) == 10) = false := c8_ne 10 a10
     clear a1 a2 a5 a9 a3 a4 a6 a7 a8 a10
     simp only [wT_st]
     repeat refine St (And.intro (And.intro @gentry.eq_1 <| @gentry.eq_2) <| And.intro d1 <| And.intro d2 <| And.intro d5 <| And.intro d9 <| And.intro d3 <| And.intro d4 <| And.intro d6 <| And.intro d7 <| And.intro d8 <| d10) ct35a ?_
     exact Fin (And.intro @aT_st <| And.intro @ansS_eq <| And.intro @wT_st <| And.intro hop <| And.intro hE <| hN) [] [0, 1, 2]
 · rename_i b w y f1 f2 f3 f4 f5 f6 f7 f8
   split at hG <;> try (cases hG; done)
   rename_i c hc0
   split at hG
   case isFalse => cases hG
   rename_i hc
   obtain ⟨⟨rfl, rfl, rfl, rfl, rfl, rfl, rfl, rfl⟩, rfl, hb⟩ := hc
   obtain rfl := inv_inv hc0
   rw [bareN_S]
   have e0 : Blk.bx (.t (.st [.by b, .bool false])) = .bx (.t (.st [.by (sW b false).b, .bool (decide ((sW b false).e ≠ 0))])) := rfl
   rw [e0]
   have e1 : (⟨b, 0⟩ : RSt) = sW b false := rfl
   rw [e1] at hG
   have hs : (sW b false).b.length ≤ 549755000000 := hb
   generalize sW b false = s at *
   have hzH : zH.1.length = 32 := zH.2
   rcases kA_of c with ⟨a1, hk⟩ | ⟨a1, a2, hk⟩ | ⟨a1, a2, a5, hk⟩ | ⟨a1, a2, a5, a9, hk⟩ | ⟨a1, a2, a5, a9, a3, hk⟩ | ⟨a1, a2, a5, a9, a3, a4, hk⟩ | ⟨a1, a2, a5, a9, a3, a4, a6, hk⟩ | ⟨a1, a2, a5, a9, a3, a4, a6, a7, hk⟩ | ⟨a1, a2, a5, a9, a3, a4, a6, a7, a8, hk⟩ | ⟨a1, a2, a5, a9, a3, a4, a6, a7, a8, a10, hk⟩ | ⟨a1, a2, a5, a9, a3, a4, a6, a7, a8, a10, hk⟩
   · rw [hk] at hG
     simp only [rA, rdAK] at hG
     cases hG
     have d1 : ((c.toNat : Int) == 1) = true := c8_eq 1 a1
     clear a1
     simp only [bareA]
     have q1 := ansS_name ⟨c, 0, zH, 0, zW, 0, false, [], [], zN, []⟩ .nil .nil
     have r1 := rname_a (w := decide (s.e ≠ 0)) (Nat.le_trans hs (show 549755000000 ≤ 549755800000 by omega)) q1.1
     rw [rds (B := ansS ⟨c, 0, zH, 0, zW, 0, false, [], [], zN, []⟩ .nil .nil) tH zH s _ (fun m => ansS ⟨c, 0, m, 0, zW, 0, false, [], [], zN, []⟩ .nil .nil) rfl q1.2] at r1
     have l1 := sW_len (d := zH) tH_len (Nat.le_trans hs (show 549755000000 ≤ 549755800000 by omega))
     generalize rd tH zH s = R1 at *
     obtain ⟨v1, s1⟩ := R1
     dsimp only at r1 l1 ⊢
     have q2 := ansS_hgt ⟨c, 0, v1, 0, zW, 0, false, [], [], zN, []⟩ .nil .nil
     have r2 := rshort_a (w := decide (s1.e ≠ 0)) l1 q2.1
     rw [rds (B := ansS ⟨c, 0, v1, 0, zW, 0, false, [], [], zN, []⟩ .nil .nil) t32 0 s1 _ (fun m => ansS ⟨c, 0, v1, m, zW, 0, false, [], [], zN, []⟩ .nil .nil) rfl q2.2] at r2
     have l2 := sW_len (d := 0) t32_len l1
     generalize rd t32 0 s1 = R2 at *
     obtain ⟨v2, s2⟩ := R2
     dsimp only at r2 l2 ⊢
     have q3 := ansS_work ⟨c, 0, v1, v2, zW, 0, false, [], [], zN, []⟩ .nil .nil
     have r3 := rwork_a (w := decide (s2.e ≠ 0)) l2 q3.1
     rw [q3.2, (rd_sW tH zH s2).1, (rd_sW tH zH s2).2] at r3
     have l3 := sW_len (d := zH) tH_len l2
     generalize rd tH zH s2 = R3 at *
     obtain ⟨v3, s3⟩ := R3
     dsimp only at r3 l3 ⊢
     clear q1 q2 q3
     simp only [ansS_eq, wT_st, rX_st] at r1 r2 r3 ⊢
     repeat refine St (And.intro (And.intro @gentry.eq_1 <| @gentry.eq_2) <| And.intro d1 <| And.intro r1 <| And.intro r2 <| r3) ct35a ?_
     exact Fin trivial [] [0, 1]
   · rw [hk] at hG
     simp only [rA, rdAK] at hG
     cases hG
     have d1 : ((c.toNat : Int) == 1) = false := c8_ne 1 a1
     have d2 : ((c.toNat : Int) == 2) = true := c8_eq 2 a2
     clear a1 a2
     simp only [bareA]
     have q1 := ansS_bts ⟨c, 0, zH, 0, zW, 0, false, [], [], zN, []⟩ .nil .nil
     have r1 := rtext_a (w := decide (s.e ≠ 0)) (Nat.le_trans hs (show 549755000000 ≤ 549755800000 by omega)) q1.1
     rw [rds (B := ansS ⟨c, 0, zH, 0, zW, 0, false, [], [], zN, []⟩ .nil .nil) tBts [] s _ (fun m => ansS ⟨c, 0, zH, 0, zW, 0, false, m, [], zN, []⟩ .nil .nil) rfl q1.2] at r1
     have l1 := sW_len (d := []) tBts_len9 (Nat.le_trans hs (show 549755000000 ≤ 549755800000 by omega))
     generalize rd tBts [] s = R1 at *
     obtain ⟨v1, s1⟩ := R1
     dsimp only at r1 l1 ⊢
     clear q1
     simp only [ansS_eq, wT_st, rX_st] at r1 ⊢
     repeat refine St (And.intro (And.intro @gentry.eq_1 <| @gentry.eq_2) <| And.intro d1 <| And.intro d2 <| r1) ct35a ?_
     exact Fin trivial [] [0, 1]
   · rw [hk] at hG
     simp only [rA, rdAK] at hG
     cases hG
     have d1 : ((c.toNat : Int) == 1) = false := c8_ne 1 a1
     have d2 : ((c.toNat : Int) == 2) = false := c8_ne 2 a2
     have d5 : ((c.toNat : Int) == 5) = true := c8_eq 5 a5
     clear a1 a2 a5
     simp only [bareA]
     have q1 := ansS_bts ⟨c, 0, zH, 0, zW, 0, false, [], [], zN, []⟩ .nil .nil
     have r1 := rtext_a (w := decide (s.e ≠ 0)) (Nat.le_trans hs (show 549755000000 ≤ 549755800000 by omega)) q1.1
     rw [rds (B := ansS ⟨c, 0, zH, 0, zW, 0, false, [], [], zN, []⟩ .nil .nil) tBts [] s _ (fun m => ansS ⟨c, 0, zH, 0, zW, 0, false, m, [], zN, []⟩ .nil .nil) rfl q1.2] at r1
     have l1 := sW_len (d := []) tBts_len9 (Nat.le_trans hs (show 549755000000 ≤ 549755800000 by omega))
     generalize rd tBts [] s = R1 at *
     obtain ⟨v1, s1⟩ := R1
     dsimp only at r1 l1 ⊢
     clear q1
     simp only [ansS_eq, wT_st, rX_st] at r1 ⊢
     repeat refine St (And.intro (And.intro @gentry.eq_1 <| @gentry.eq_2) <| And.intro d1 <| And.intro d2 <| And.intro d5 <| r1) ct35a ?_
     exact Fin trivial [] [0, 1]
   · rw [hk] at hG
     simp only [rA, rdAK] at hG
     cases hG
     have d1 : ((c.toNat : Int) == 1) = false := c8_ne 1 a1
     have d2 : ((c.toNat : Int) == 2) = false := c8_ne 2 a2
     have d5 : ((c.toNat : Int) == 5) = false := c8_ne 5 a5
     have d9 : ((c.toNat : Int) == 9) = true := c8_eq 9 a9
     clear a1 a2 a5 a9
     simp only [bareA]
     have q1 := ansS_bts ⟨c, 0, zH, 0, zW, 0, false, [], [], zN, []⟩ .nil .nil
     have r1 := rtext_a (w := decide (s.e ≠ 0)) (Nat.le_trans hs (show 549755000000 ≤ 549755800000 by omega)) q1.1
     rw [rds (B := ansS ⟨c, 0, zH, 0, zW, 0, false, [], [], zN, []⟩ .nil .nil) tBts [] s _ (fun m => ansS ⟨c, 0, zH, 0, zW, 0, false, m, [], zN, []⟩ .nil .nil) rfl q1.2] at r1
     have l1 := sW_len (d := []) tBts_len9 (Nat.le_trans hs (show 549755000000 ≤ 549755800000 by omega))
     generalize rd tBts [] s = R1 at *
     obtain ⟨v1, s1⟩ := R1
     dsimp only at r1 l1 ⊢
     clear q1
     simp only [ansS_eq, wT_st, rX_st] at r1 ⊢
     repeat refine St (And.intro (And.intro @gentry.eq_1 <| @gentry.eq_2) <| And.intro d1 <| And.intro d2 <| And.intro d5 <| And.intro d9 <| r1) ct35a ?_
     exact Fin trivial [] [0, 1]
   · rw [hk] at hG
     simp only [rA, rdAK] at hG
     cases hG
     have d1 : ((c.toNat : Int) == 1) = false := c8_ne 1 a1
     have d2 : ((c.toNat : Int) == 2) = false := c8_ne 2 a2
     have d5 : ((c.toNat : Int) == 5) = false := c8_ne 5 a5
     have d9 : ((c.toNat : Int) == 9) = false := c8_ne 9 a9
     have d3 : ((c.toNat : Int) == 3) = true := c8_eq 3 a3
     clear a1 a2 a5 a9 a3
     simp only [bareA]
     have q1 := ansS_val ⟨c, 0, zH, 0, zW, 0, false, [], [], zN, []⟩ .nil .nil
     have r1 := rlong_a (w := decide (s.e ≠ 0)) (Nat.le_trans hs (show 549755000000 ≤ 549755800000 by omega)) q1.1
     rw [rds (B := ansS ⟨c, 0, zH, 0, zW, 0, false, [], [], zN, []⟩ .nil .nil) t64 0 s _ (fun m => ansS ⟨c, 0, zH, 0, zW, m, false, [], [], zN, []⟩ .nil .nil) rfl q1.2] at r1
     have l1 := sW_len (d := 0) t64_len (Nat.le_trans hs (show 549755000000 ≤ 549755800000 by omega))
     generalize rd t64 0 s = R1 at *
     obtain ⟨v1, s1⟩ := R1
     dsimp only at r1 l1 ⊢
     have q2 := ansS_hgt ⟨c, 0, zH, 0, zW, v1, false, [], [], zN, []⟩ .nil .nil
     have r2 := rshort_a (w := decide (s1.e ≠ 0)) l1 q2.1
     rw [rds (B := ansS ⟨c, 0, zH, 0, zW, v1, false, [], [], zN, []⟩ .nil .nil) t32 0 s1 _ (fun m => ansS ⟨c, 0, zH, m, zW, v1, false, [], [], zN, []⟩ .nil .nil) rfl q2.2] at r2
     have l2 := sW_len (d := 0) t32_len l1
     generalize rd t32 0 s1 = R2 at *
     obtain ⟨v2, s2⟩ := R2
     dsimp only at r2 l2 ⊢
     have q3 := ansS_fst ⟨c, 0, zH, v2, zW, v1, false, [], [], zN, []⟩ .nil .nil
     have r3 := rflag_a (w := decide (s2.e ≠ 0)) l2 q3.1
     rw [rds (B := ansS ⟨c, 0, zH, v2, zW, v1, false, [], [], zN, []⟩ .nil .nil) tFl false s2 _ (fun m => ansS ⟨c, 0, zH, v2, zW, v1, m, [], [], zN, []⟩ .nil .nil) rfl q3.2] at r3
     have l3 := sW_len (d := false) tFl_len l2
     generalize rd tFl false s2 = R3 at *
     obtain ⟨v3, s3⟩ := R3
     dsimp only at r3 l3 ⊢
     have q4 := ansS_bts ⟨c, 0, zH, v2, zW, v1, v3, [], [], zN, []⟩ .nil .nil
     have r4 := rtext_a (w := decide (s3.e ≠ 0)) l3 q4.1
     rw [rds (B := ansS ⟨c, 0, zH, v2, zW, v1, v3, [], [], zN, []⟩ .nil .nil) tBts [] s3 _ (fun m => ansS ⟨c, 0, zH, v2, zW, v1, v3, m, [], zN, []⟩ .nil .nil) rfl q4.2] at r4
     have l4 := sW_len (d := []) tBts_len9 l3
     generalize rd tBts [] s3 = R4 at *
     obtain ⟨v4, s4⟩ := R4
     dsimp only at r4 l4 ⊢
     clear q1 q2 q3 q4
     simp only [ansS_eq, wT_st, rX_st] at r1 r2 r3 r4 ⊢
     repeat refine St (And.intro (And.intro @gentry.eq_1 <| @gentry.eq_2) <| And.intro d1 <| And.intro d2 <| And.intro d5 <| And.intro d9 <| And.intro d3 <| And.intro r1 <| And.intro r2 <| And.intro r3 <| r4) ct35a ?_
     exact Fin trivial [] [0, 1]
   · rw [hk] at hG
     simp only [rA, rdAK] at hG
     cases hG
     have d1 : ((c.toNat : Int) == 1) = false := c8_ne 1 a1
     have d2 : ((c.toNat : Int) == 2) = false := c8_ne 2 a2
     have d5 : ((c.toNat : Int) == 5) = false := c8_ne 5 a5
     have d9 : ((c.toNat : Int) == 9) = false := c8_ne 9 a9
     have d3 : ((c.toNat : Int) == 3) = false := c8_ne 3 a3
     have d4 : ((c.toNat : Int) == 4) = true := c8_eq 4 a4
     clear a1 a2 a5 a9 a3 a4
     simp only [bareA]
     have q1 := ansS_val ⟨c, 0, zH, 0, zW, 0, false, [], [], zN, []⟩ .nil .nil
     have r1 := rlong_a (w := decide (s.e ≠ 0)) (Nat.le_trans hs (show 549755000000 ≤ 549755800000 by omega)) q1.1
     rw [rds (B := ansS ⟨c, 0, zH, 0, zW, 0, false, [], [], zN, []⟩ .nil .nil) t64 0 s _ (fun m => ansS ⟨c, 0, zH, 0, zW, m, false, [], [], zN, []⟩ .nil .nil) rfl q1.2] at r1
     have l1 := sW_len (d := 0) t64_len (Nat.le_trans hs (show 549755000000 ≤ 549755800000 by omega))
     generalize rd t64 0 s = R1 at *
     obtain ⟨v1, s1⟩ := R1
     dsimp only at r1 l1 ⊢
     have q2 := ansS_bts ⟨c, 0, zH, 0, zW, v1, false, [], [], zN, []⟩ .nil .nil
     have r2 := rtext_a (w := decide (s1.e ≠ 0)) l1 q2.1
     rw [rds (B := ansS ⟨c, 0, zH, 0, zW, v1, false, [], [], zN, []⟩ .nil .nil) tBts [] s1 _ (fun m => ansS ⟨c, 0, zH, 0, zW, v1, false, m, [], zN, []⟩ .nil .nil) rfl q2.2] at r2
     have l2 := sW_len (d := []) tBts_len9 l1
     generalize rd tBts [] s1 = R2 at *
     obtain ⟨v2, s2⟩ := R2
     dsimp only at r2 l2 ⊢
     clear q1 q2
     simp only [ansS_eq, wT_st, rX_st] at r1 r2 ⊢
     repeat refine St (And.intro (And.intro @gentry.eq_1 <| @gentry.eq_2) <| And.intro d1 <| And.intro d2 <| And.intro d5 <| And.intro d9 <| And.intro d3 <| And.intro d4 <| And.intro r1 <| r2) ct35a ?_
     exact Fin trivial [] [0, 1]
   · rw [hk] at hG
     simp only [rA, rdAK] at hG
     cases hG
     have d1 : ((c.toNat : Int) == 1) = false := c8_ne 1 a1
     have d2 : ((c.toNat : Int) == 2) = false := c8_ne 2 a2
     have d5 : ((c.toNat : Int) == 5) = false := c8_ne 5 a5
     have d9 : ((c.toNat : Int) == 9) = false := c8_ne 9 a9
     have d3 : ((c.toNat : Int) == 3) = false := c8_ne 3 a3
     have d4 : ((c.toNat : Int) == 4) = false := c8_ne 4 a4
     have d6 : ((c.toNat : Int) == 6) = true := c8_eq 6 a6
     clear a1 a2 a5 a9 a3 a4 a6
     simp only [bareA]
     have h0 : G78a [.bx (.t (.st [.by s.b, .bool (decide (s.e ≠ 0))]))] [.ptr 0 0 [], .t (.int .i64 0), .t (.int .i64 200)] = some ([rX (rd (tCnt 200) 0 s).2], .t (.int .i64 ((rd (tCnt 200) 0 s).1 : Nat))) := by
       have e := rd_sW (tCnt 200) 0 s
       have e2 : ((200 : Int)).toNat = 200 := rfl
       refine (if_pos ⟨Nat.le_trans hs (show 549755000000 ≤ 549755800000 by omega), by decide, by decide⟩).trans ?_
       rw [e2, e.1, e.2]
     have hn : (rd (tCnt 200) 0 s).1 ≤ 200 := rdCnt_le 200 s
     have ls1 := sW_len (d := 0) (tCnt_len9 200) (Nat.le_trans hs (show 549755000000 ≤ 549755800000 by omega))
     generalize rd (tCnt 200) 0 s = R0 at *
     obtain ⟨n, s1⟩ := R0
     dsimp only at h0 hn ls1 ⊢
     have hlb : ∀ i, (rdN rdE i s1).2.b.length ≤ 549755800000 := fun i => by
       induction i with
       | zero => exact ls1
       | succ i ih => rw [rdN_snoc]; exact rdE_len ih
     have hrd : ∀ i, i < n → G58a [.bx (.t (.st [.by (rdN rdE i s1).2.b, .bool (decide ((rdN rdE i s1).2.e ≠ 0))])), .sq 69 ((rdN rdE i s1).1.map eT ++ List.replicate (n - i) (eT dE))] [.st [.clo 1000071 [.ptr 0 0 []], .clo 1000072 [.ptr 0 0 []], .clo 1000073 [.ptr 0 0 []], .clo 1000074 [.ptr 0 0 []], .clo 1000075 [.ptr 0 0 []], .clo 1000076 [.ptr 0 0 []], .clo 1000077 [.ptr 0 0 []], .clo 1000078 [.ptr 0 0 []]], .ptr 1 (i * 69) [i]] =
         some ([.bx (.t (.st [.by (rdN rdE (i + 1) s1).2.b, .bool (decide ((rdN rdE (i + 1) s1).2.e ≠ 0))])), .sq 69 ((rdN rdE (i + 1) s1).1.map eT ++ List.replicate (n - (i + 1)) (eT dE))], .tup []) := by
       intro i hi
       have hb' := hlb i
       have hli := rdN_len rdE i s1
       rw [rdN_snoc]
       generalize rdN rdE i s1 = R at *
       have hset := rep_set (R.1.map eT) (eT dE) (eT (rdE R.2).1) (i := i) (n := n) (by simp [hli]) hi
       have hget := rep_get (R.1.map eT) (eT dE) (i := i) (n := n) (by simp [hli]) hi
       have hlen : i < (R.1.map eT ++ List.replicate (n - i) (eT dE)).length := by simp [hli]; omega
       have hg : G58a [.bx (.t (.st [.by R.2.b, .bool (decide (R.2.e ≠ 0))])), .sq 69 (R.1.map eT ++ List.replicate (n - i) (eT dE))] [.st [.clo 1000071 [.ptr 0 0 []], .clo 1000072 [.ptr 0 0 []], .clo 1000073 [.ptr 0 0 []], .clo 1000074 [.ptr 0 0 []], .clo 1000075 [.ptr 0 0 []], .clo 1000076 [.ptr 0 0 []], .clo 1000077 [.ptr 0 0 []], .clo 1000078 [.ptr 0 0 []]], .ptr 1 (i * 69) [i]] = some ([rX (rdE (sW R.2.b (decide (R.2.e ≠ 0)))).2, .sq 69 ((R.1.map eT ++ List.replicate (n - i) (eT dE)).set i (eT (rdE (sW R.2.b (decide (R.2.e ≠ 0)))).1))], .tup []) := by
         simp only [G58a]
         exact if_pos ⟨⟨rfl, rfl, rfl, rfl⟩, hlen, rfl, hb', hget⟩
       rw [(rdE_sW R.2).1, (rdE_sW R.2).2, hset] at hg
       rw [hg, List.map_append]; rfl
     have h3 : F57o [.sq 69 []] = some ([.sq 69 []], .own 0) := if_pos (e := none) (show ([] : List T).length ≤ 1000000 by decide)
     have hmin : (if (0 : Int) < (n : Int) then (0 : Int) else (n : Int)) = 0 := by split <;> omega
     have hmn2 : (n : Int) - 0 = (n : Int) := by omega
     have ht : ((n : Nat) : Int).toNat = n := Int.toNat_natCast n
     have hz : T.st [.st [.ba 32 (zby 32), .int .u32 0], .int .u64 0, .int .i64 0, .int .i64 0, .int .u32 0, .ba 32 (zby 32)] = eT dE := rfl
     have i0 : (rdN rdE 0 s1).1.map eT ++ List.replicate (n - 0) (eT dE) = List.replicate n (eT dE) := rfl
     have es1 : s1 = (rdN rdE 0 s1).2 := rfl
     generalize hS5 : (fun i => (rdN rdE i s1).2) = Sf
     have hSf : ∀ i, (rdN rdE i s1).2 = Sf i := fun i => by rw [← hS5]
     have hS0 : s1 = Sf 0 := by rw [← hSf]; rfl
     generalize hL5 : (fun i => (rdN rdE i s1).1.map eT ++ List.replicate (n - i) (eT dE)) = Lf
     have hLf : ∀ i, (rdN rdE i s1).1.map eT ++ List.replicate (n - i) (eT dE) = Lf i := fun i => by rw [← hL5]
     have hL0 : List.replicate n (eT dE) = Lf 0 := by rw [← hLf, i0]
     have hLn : (rdN rdE n s1).1.map eT = Lf n := by rw [← hLf]; simp
     have hLl : ∀ i, i ≤ n → (Lf i).length = n := fun i hi => by rw [← hLf]; simp [rdN_len]; omega
     simp only [hSf, hLf] at hrd
     have hfin : rX (rdN rdE n s1).2 = .bx (.t (.st [.by (Sf n).b, .bool (decide ((Sf n).e ≠ 0))])) := by rw [hSf]
     rw [hfin, hLn]
     rw [rX_st, hS0] at h0
     clear hfin hS5 hL5 hLf hSf es1 i0 hlb hLn e0 e1
     simp only [ansS_eq, wT_st]
     repeat refine St (And.intro (And.intro @gentry.eq_1 <| @gentry.eq_2) <| And.intro d1 <| And.intro d2 <| And.intro d5 <| And.intro d9 <| And.intro d3 <| And.intro d4 <| And.intro d6 <| And.intro h0 <| And.intro h3 <| And.intro hmin <| And.intro hmn2 <| And.intro ht <| And.intro @aAppendZ.eq_def <| And.intro hz <| And.intro hL0 <| @List.nil_append.{0}) ct35a ?_
     have hLl0 := hLl 0 (by omega)
     refine AWP.loop (G := { i : Nat // i ≤ n }) (fun i => ⟨[(1, .ptr 1 0 []), (2, .ptr 2 0 []), (115, .t (.int .i64 (n : Int))), (116, .t (.int .i64 (i.1 : Int)))], [.bx (.t (.st [.by (Sf i.1).b, .bool (decide ((Sf i.1).e ≠ 0))])), .bx (.st [.t (.int .u8 (c.toNat : Int)), .t (.int .i64 0), .t (.ba 32 zH.1), .t (.int .u32 (((0 : UInt32).toNat : Nat) : Int)), .t (.ar 4 1 [.int .u64 (zW.a.toNat : Int), .int .u64 (zW.b.toNat : Int), .int .u64 (zW.c.toNat : Int), .int .u64 (zW.d.toNat : Int)]), .t (.int .u64 (((0 : UInt64).toNat : Nat) : Int)), .t (.bool false), .t (.by []), .own 3, .t (.ar 5 1 (zN.1.map nT)), .t .nil]), .bx (.st [.clo 1000071 [.ptr 0 0 []], .clo 1000072 [.ptr 0 0 []], .clo 1000073 [.ptr 0 0 []], .clo 1000074 [.ptr 0 0 []], .clo 1000075 [.ptr 0 0 []], .clo 1000076 [.ptr 0 0 []], .clo 1000077 [.ptr 0 0 []], .clo 1000078 [.ptr 0 0 []]]), .sq 69 (Lf i.1)]⟩) (fun i => n - i.1) ⟨0, by omega⟩ (Wt (And.intro hLl0 <| hL0) [1, 2, 115, 116] [0, 1, 2, 4]) ?_
     rintro ⟨i, hi⟩
     dsimp only
     have hli := hLl i hi
     by_cases hlt : i < n
     · have hlt2 : (i : Int) < (n : Int) := by omega
       have h1 := hrd i hlt
       have hw : IntKind.i64.wrap ((i : Int) + 1) = ((i + 1 : Nat) : Int) := by rw [wrap_i64 (by omega) (by omega)]; omega
       repeat refine St (And.intro hlt2 <| And.intro hlt <| And.intro h1 <| And.intro hw <| hli) ct35a ?_
       exact ⟨⟨i + 1, by omega⟩, (Wt trivial [1, 2, 115, 116] [0, 1, 2, 3]), by simp only; omega⟩
     · obtain rfl : i = n := by omega
       have hlt2 : ¬ (i : Int) < (i : Int) := by omega
       repeat refine St hlt2 ct35a ?_
       exact Fin (And.intro @boxE.eq_def <| @wT_st) [] [0, 1, 3]
   · rw [hk] at hG
     simp only [rA, rdAK] at hG
     cases hG
     have d1 : ((c.toNat : Int) == 1) = false := c8_ne 1 a1
     have d2 : ((c.toNat : Int) == 2) = false := c8_ne 2 a2
     have d5 : ((c.toNat : Int) == 5) = false := c8_ne 5 a5
     have d9 : ((c.toNat : Int) == 9) = false := c8_ne 9 a9
     have d3 : ((c.toNat : Int) == 3) = false := c8_ne 3 a3
     have d4 : ((c.toNat : Int) == 4) = false := c8_ne 4 a4
     have d6 : ((c.toNat : Int) == 6) = false := c8_ne 6 a6
     have d7 : ((c.toNat : Int) == 7) = true := c8_eq 7 a7
     clear a1 a2 a5 a9 a3 a4 a6 a7
     simp only [bareA]
     have hn5 : ∀ l : List UInt32, l.length = 5 → ansS ⟨c, 0, zH, 0, zW, 0, false, [], [], n5Of l, []⟩ .nil .nil = ansL ⟨c, 0, zH, 0, zW, 0, false, [], [], zN, []⟩ l .nil .nil := fun l h => by rw [ansL_S]; dsimp only; rw [n5Of_val h]; rfl
     rw [hn5 _ (rdN_len _ _ _), ansL_S]
     have hlb : ∀ i, (rdN (rd t32 0) i s).2.b.length ≤ 549755800000 := fun i => by
       induction i with
       | zero => exact Nat.le_trans hs (by omega)
       | succ i ih => rw [rdN_snoc]; exact sW_len (d := 0) t32_len ih
     have hl5 : ∀ i, i ≤ 5 → ((rdN (rd t32 0) i s).1 ++ List.replicate (5 - i) (0 : UInt32)).length = 5 := fun i hi => by simp [rdN_len]; omega
     have hrd : ∀ i, i < 5 → G72a [.bx (.t (.st [.by (rdN (rd t32 0) i s).2.b, .bool (decide ((rdN (rd t32 0) i s).2.e ≠ 0))])), ansL ⟨c, 0, zH, 0, zW, 0, false, [], [], zN, []⟩ ((rdN (rd t32 0) i s).1 ++ List.replicate (5 - i) (0 : UInt32)) .nil .nil] [.ptr 0 0 [], .ptr 1 (43 + i) [9, i]] =
         some ([.bx (.t (.st [.by (rdN (rd t32 0) (i + 1) s).2.b, .bool (decide ((rdN (rd t32 0) (i + 1) s).2.e ≠ 0))])), ansL ⟨c, 0, zH, 0, zW, 0, false, [], [], zN, []⟩ ((rdN (rd t32 0) (i + 1) s).1 ++ List.replicate (5 - (i + 1)) (0 : UInt32)) .nil .nil], .tup []) := by
       intro i hi
       have hll := hl5 i (by omega)
       have hli := rdN_len (rd t32 0) i s
       rw [rdN_snoc]
       generalize hr : rdN (rd t32 0) i s = R at *
       have hb' := hlb i
       rw [hr] at hb'
       have q := ansL_num ⟨c, 0, zH, 0, zW, 0, false, [], [], zN, []⟩ (R.1 ++ List.replicate (5 - i) (0 : UInt32)) .nil .nil rfl (i := i) (off := 43 + i) (by omega) rfl
       have r := rshort_a (w := decide (R.2.e ≠ 0)) hb' q.1
       have hset : ∀ m : UInt32, (R.1 ++ List.replicate (5 - i) (0 : UInt32)).set i m = R.1 ++ [m] ++ List.replicate (5 - (i + 1)) 0 := fun m => by
         rw [List.set_append_right _ _ (by omega), show 5 - i = (5 - (i + 1)) + 1 by omega, List.replicate_succ, hli, Nat.sub_self, List.set_cons_zero, List.append_assoc]; rfl
       rw [rds (B := ansL ⟨c, 0, zH, 0, zW, 0, false, [], [], zN, []⟩ (R.1 ++ List.replicate (5 - i) (0 : UInt32)) .nil .nil) t32 0 R.2 _ (fun m => ansL ⟨c, 0, zH, 0, zW, 0, false, [], [], zN, []⟩ (R.1 ++ [m] ++ List.replicate (5 - (i + 1)) 0) .nil .nil) (by (try dsimp only); rw [← hset 0]; congr 1; rw [show 5 - i = (5 - (i + 1)) + 1 by omega, List.replicate_succ, List.set_append_right _ _ (by omega), hli, Nat.sub_self, List.set_cons_zero]) (fun m => by rw [q.2 m, hset m])] at r
       exact r
     have z5 : ansL ⟨c, 0, zH, 0, zW, 0, false, [], [], zN, []⟩ zN.1 .nil .nil = ansL ⟨c, 0, zH, 0, zW, 0, false, [], [], zN, []⟩ ((rdN (rd t32 0) 0 s).1 ++ List.replicate (5 - 0) (0 : UInt32)) .nil .nil := rfl
     rw [z5]
     have f5 : (rdN (rd t32 0) 5 s).1 = (rdN (rd t32 0) 5 s).1 ++ List.replicate (5 - 5) (0 : UInt32) := by simp
     rw [f5]
     have es : s = (rdN (rd t32 0) 0 s).2 := rfl
     generalize hL : (fun i => (rdN (rd t32 0) i s).1 ++ List.replicate (5 - i) (0 : UInt32)) = Lf
     have hLf : ∀ i, (rdN (rd t32 0) i s).1 ++ List.replicate (5 - i) (0 : UInt32) = Lf i := fun i => by rw [← hL]
     generalize hS5 : (fun i => (rdN (rd t32 0) i s).2) = Sf
     have hSf : ∀ i, (rdN (rd t32 0) i s).2 = Sf i := fun i => by rw [← hS5]
     have es0 : s = Sf 0 := by rw [← hSf]; rfl
     simp only [hLf, hSf] at hrd ⊢
     rw [es0]
     simp only [ansL, wT_st, rX_st] at hrd ⊢
     clear hL hS5 hLf hSf es0 es f5 z5 hl5 hlb hn5 e0 e1
     repeat refine St (And.intro (And.intro @gentry.eq_1 <| @gentry.eq_2) <| And.intro d1 <| And.intro d2 <| And.intro d5 <| And.intro d9 <| And.intro d3 <| And.intro d4 <| And.intro d6 <| d7) ct35a ?_
     refine AWP.loop (G := { i : Nat // i ≤ 5 }) (fun i => ⟨[(1, .ptr 1 0 []), (2, .ptr 2 0 []), (130, .t (.int .i64 (i.1 : Int)))], [.bx (.t (.st [.by (Sf i.1).b, .bool (decide ((Sf i.1).e ≠ 0))])), .bx (.t (.st [.int .u8 (c.toNat : Int), .int .i64 0, .ba 32 zH.1, .int .u32 (((0 : UInt32).toNat : Nat) : Int), .ar 4 1 [.int .u64 (zW.a.toNat : Int), .int .u64 (zW.b.toNat : Int), .int .u64 (zW.c.toNat : Int), .int .u64 (zW.d.toNat : Int)], .int .u64 (((0 : UInt64).toNat : Nat) : Int), .bool false, .by [], .nil, .ar 5 1 ((Lf i.1).map nT), .nil])), .bx (.st [.clo 1000071 [.ptr 0 0 []], .clo 1000072 [.ptr 0 0 []], .clo 1000073 [.ptr 0 0 []], .clo 1000074 [.ptr 0 0 []], .clo 1000075 [.ptr 0 0 []], .clo 1000076 [.ptr 0 0 []], .clo 1000077 [.ptr 0 0 []], .clo 1000078 [.ptr 0 0 []]])]⟩) (fun i => 5 - i.1) ⟨0, by omega⟩ (Wt trivial [1, 2, 130] [0, 1, 2]) ?_
     rintro ⟨i, hi⟩
     dsimp only
     by_cases hlt : i < 5
     · have hlt2 : (i : Int) < 5 := by omega
       have h1 := hrd i hlt
       have hw : IntKind.i64.wrap ((i : Int) + 1) = ((i + 1 : Nat) : Int) := by rw [wrap_i64 (by omega) (by omega)]; omega
       repeat refine St (And.intro hlt2 <| And.intro hlt <| And.intro h1 <| hw) ct35a ?_
       exact ⟨⟨i + 1, by omega⟩, (Wt trivial [1, 2, 130] [0, 1, 2]), by simp only; omega⟩
     · obtain rfl : i = 5 := by omega
       have hlt2 : ¬ ((5 : Nat) : Int) < 5 := by omega
       repeat refine St hlt2 ct35a ?_
       exact Fin trivial [] [0, 1]
   · rw [hk] at hG
     simp only [rA, rdAK] at hG
     cases hG
     have d1 : ((c.toNat : Int) == 1) = false := c8_ne 1 a1
     have d2 : ((c.toNat : Int) == 2) = false := c8_ne 2 a2
     have d5 : ((c.toNat : Int) == 5) = false := c8_ne 5 a5
     have d9 : ((c.toNat : Int) == 9) = false := c8_ne 9 a9
     have d3 : ((c.toNat : Int) == 3) = false := c8_ne 3 a3
     have d4 : ((c.toNat : Int) == 4) = false := c8_ne 4 a4
     have d6 : ((c.toNat : Int) == 6) = false := c8_ne 6 a6
     have d7 : ((c.toNat : Int) == 7) = false := c8_ne 7 a7
     have d8 : ((c.toNat : Int) == 8) = true := c8_eq 8 a8
     clear a1 a2 a5 a9 a3 a4 a6 a7 a8
     simp only [bareA]
     have q1 := ansS_name ⟨c, 0, zH, 0, zW, 0, false, [], [], zN, []⟩ .nil .nil
     have r1 := rname_a (w := decide (s.e ≠ 0)) (Nat.le_trans hs (show 549755000000 ≤ 549755800000 by omega)) q1.1
     rw [rds (B := ansS ⟨c, 0, zH, 0, zW, 0, false, [], [], zN, []⟩ .nil .nil) tH zH s _ (fun m => ansS ⟨c, 0, m, 0, zW, 0, false, [], [], zN, []⟩ .nil .nil) rfl q1.2] at r1
     have l1 := sW_len (d := zH) tH_len (Nat.le_trans hs (show 549755000000 ≤ 549755800000 by omega))
     generalize rd tH zH s = R1 at *
     obtain ⟨v1, s1⟩ := R1
     dsimp only at r1 l1 ⊢
     clear q1
     simp only [ansS_eq, wT_st, rX_st] at r1 ⊢
     repeat refine St (And.intro (And.intro @gentry.eq_1 <| @gentry.eq_2) <| And.intro d1 <| And.intro d2 <| And.intro d5 <| And.intro d9 <| And.intro d3 <| And.intro d4 <| And.intro d6 <| And.intro d7 <| And.intro d8 <| r1) ct35a ?_
     exact Fin trivial [] [0, 1]
   · rw [hk] at hG
     simp only [rA, rdAK] at hG
     cases hG
     have d1 : ((c.toNat : Int) == 1) = false := c8_ne 1 a1
     have d2 : ((c.toNat : Int) == 2) = false := c8_ne 2 a2
     have d5 : ((c.toNat : Int) == 5) = false := c8_ne 5 a5
     have d9 : ((c.toNat : Int) == 9) = false := c8_ne 9 a9
     have d3 : ((c.toNat : Int) == 3) = false := c8_ne 3 a3
     have d4 : ((c.toNat : Int) == 4) = false := c8_ne 4 a4
     have d6 : ((c.toNat : Int) == 6) = false := c8_ne 6 a6
     have d7 : ((c.toNat : Int) == 7) = false := c8_ne 7 a7
     have d8 : ((c.toNat : Int) == 8) = false := c8_ne 8 a8
     have d10 : ((c.toNat : Int) == 10) = true := c8_eq 10 a10
     clear a1 a2 a5 a9 a3 a4 a6 a7 a8 a10
     simp only [bareA]
     have h0 : G78a [.bx (.t (.st [.by s.b, .bool (decide (s.e ≠ 0))]))] [.ptr 0 0 [], .t (.int .i64 0), .t (.int .i64 100)] = some ([rX (rd (tCnt 100) 0 s).2], .t (.int .i64 ((rd (tCnt 100) 0 s).1 : Nat))) := by
       have e := rd_sW (tCnt 100) 0 s
       have e2 : ((100 : Int)).toNat = 100 := rfl
       refine (if_pos ⟨Nat.le_trans hs (show 549755000000 ≤ 549755800000 by omega), by decide, by decide⟩).trans ?_
       rw [e2, e.1, e.2]
     have hn : (rd (tCnt 100) 0 s).1 ≤ 100 := rdCnt_le 100 s
     have ls1 := sW_len (d := 0) (tCnt_len9 100) (Nat.le_trans hs (show 549755000000 ≤ 549755800000 by omega))
     generalize rd (tCnt 100) 0 s = R0 at *
     obtain ⟨n, s1⟩ := R0
     dsimp only at h0 hn ls1 ⊢
     have hlb : ∀ i, (rdN (rd tH zH) i s1).2.b.length ≤ 549755800000 := fun i => by
       induction i with
       | zero => exact ls1
       | succ i ih => rw [rdN_snoc]; exact sW_len (d := zH) tH_len ih
     have hrd : ∀ i, i < n → G71a [.bx (.t (.st [.by (rdN (rd tH zH) i s1).2.b, .bool (decide ((rdN (rd tH zH) i s1).2.e ≠ 0))])), .sq 32 ((rdN (rd tH zH) i s1).1.map hT ++ List.replicate (n - i) (hT zH))] [.ptr 0 0 [], .ptr 1 (i * 32) [i]] =
         some ([.bx (.t (.st [.by (rdN (rd tH zH) (i + 1) s1).2.b, .bool (decide ((rdN (rd tH zH) (i + 1) s1).2.e ≠ 0))])), .sq 32 ((rdN (rd tH zH) (i + 1) s1).1.map hT ++ List.replicate (n - (i + 1)) (hT zH))], .tup []) := by
       intro i hi
       have hb' := hlb i
       have hli := rdN_len (rd tH zH) i s1
       rw [rdN_snoc]
       generalize rdN (rd tH zH) i s1 = R at *
       have hset := fun m => rep_set (R.1.map hT) (hT zH) (hT m) (i := i) (n := n) (by simp [hli]) hi
       have hget := rep_get (R.1.map hT) (hT zH) (i := i) (n := n) (by simp [hli]) hi
       have hlen : i < (R.1.map hT ++ List.replicate (n - i) (hT zH)).length := by simp [hli]; omega
       have r := rname_a (w := decide (R.2.e ≠ 0)) (v := zH) hb' (namS_at (off := i * 32) hlen hget rfl)
       rw [rds (B := .sq 32 (R.1.map hT ++ List.replicate (n - i) (hT zH))) tH zH R.2 _ (fun m => .sq 32 (R.1.map hT ++ [hT m] ++ List.replicate (n - (i + 1)) (hT zH))) (by (try dsimp only); rw [← hset zH, set_same9 hlen hget]) (fun m => by rw [namS_set, hset m])] at r
       rw [r, List.map_append]; rfl
     have h3 : F59o [.sq 32 []] = some ([.sq 32 []], .own 0) := if_pos (e := none) (show ([] : List T).length ≤ 1000000 by decide)
     have hmin : (if (0 : Int) < (n : Int) then (0 : Int) else (n : Int)) = 0 := by split <;> omega
     have hmn2 : (n : Int) - 0 = (n : Int) := by omega
     have ht : ((n : Nat) : Int).toNat = n := Int.toNat_natCast n
     have hz : T.ba 32 (zby 32) = hT zH := rfl
     have i0 : (rdN (rd tH zH) 0 s1).1.map hT ++ List.replicate (n - 0) (hT zH) = List.replicate n (hT zH) := rfl
     have es1 : s1 = (rdN (rd tH zH) 0 s1).2 := rfl
     generalize hS5 : (fun i => (rdN (rd tH zH) i s1).2) = Sf
     have hSf : ∀ i, (rdN (rd tH zH) i s1).2 = Sf i := fun i => by rw [← hS5]
     have hS0 : s1 = Sf 0 := by rw [← hSf]; rfl
     generalize hL5 : (fun i => (rdN (rd tH zH) i s1).1.map hT ++ List.replicate (n - i) (hT zH)) = Lf
     have hLf : ∀ i, (rdN (rd tH zH) i s1).1.map hT ++ List.replicate (n - i) (hT zH) = Lf i := fun i => by rw [← hL5]
     have hL0 : List.replicate n (hT zH) = Lf 0 := by rw [← hLf, i0]
     have hLn : (rdN (rd tH zH) n s1).1.map hT = Lf n := by rw [← hLf]; simp
     have hLl : ∀ i, i ≤ n → (Lf i).length = n := fun i hi => by rw [← hLf]; simp [rdN_len]; omega
     simp only [hSf, hLf] at hrd
     have hfin : rX (rdN (rd tH zH) n s1).2 = .bx (.t (.st [.by (Sf n).b, .bool (decide ((Sf n).e ≠ 0))])) := by rw [hSf]
     rw [hfin, hLn]
     rw [rX_st, hS0] at h0
     clear hfin hS5 hL5 hLf hSf es1 i0 hlb hLn e0 e1
     simp only [ansS_eq, wT_st]
     repeat refine St (And.intro (And.intro @gentry.eq_1 <| @gentry.eq_2) <| And.intro d1 <| And.intro d2 <| And.intro d5 <| And.intro d9 <| And.intro d3 <| And.intro d4 <| And.intro d6 <| And.intro d7 <| And.intro d8 <| And.intro d10 <| And.intro h0 <| And.intro h3 <| And.intro hmin <| And.intro hmn2 <| And.intro ht <| And.intro @aAppendZ.eq_def <| And.intro hz <| And.intro hL0 <| @List.nil_append.{0}) ct35a ?_
     have hLl0 := hLl 0 (by omega)
     refine AWP.loop (G := { i : Nat // i ≤ n }) (fun i => ⟨[(1, .ptr 1 0 []), (2, .ptr 2 0 []), (182, .t (.int .i64 (n : Int))), (183, .t (.int .i64 (i.1 : Int)))], [.bx (.t (.st [.by (Sf i.1).b, .bool (decide ((Sf i.1).e ≠ 0))])), .bx (.st [.t (.int .u8 (c.toNat : Int)), .t (.int .i64 0), .t (.ba 32 zH.1), .t (.int .u32 (((0 : UInt32).toNat : Nat) : Int)), .t (.ar 4 1 [.int .u64 (zW.a.toNat : Int), .int .u64 (zW.b.toNat : Int), .int .u64 (zW.c.toNat : Int), .int .u64 (zW.d.toNat : Int)]), .t (.int .u64 (((0 : UInt64).toNat : Nat) : Int)), .t (.bool false), .t (.by []), .t .nil, .t (.ar 5 1 (zN.1.map nT)), .own 3]), .bx (.st [.clo 1000071 [.ptr 0 0 []], .clo 1000072 [.ptr 0 0 []], .clo 1000073 [.ptr 0 0 []], .clo 1000074 [.ptr 0 0 []], .clo 1000075 [.ptr 0 0 []], .clo 1000076 [.ptr 0 0 []], .clo 1000077 [.ptr 0 0 []], .clo 1000078 [.ptr 0 0 []]]), .sq 32 (Lf i.1)]⟩) (fun i => n - i.1) ⟨0, by omega⟩ (Wt (And.intro hLl0 <| hL0) [1, 2, 182, 183] [0, 1, 2, 4]) ?_
     rintro ⟨i, hi⟩
     dsimp only
     have hli := hLl i hi
     by_cases hlt : i < n
     · have hlt2 : (i : Int) < (n : Int) := by omega
       have h1 := hrd i hlt
       have hw : IntKind.i64.wrap ((i : Int) + 1) = ((i + 1 : Nat) : Int) := by rw [wrap_i64 (by omega) (by omega)]; omega
       repeat refine St (And.intro hlt2 <| And.intro hlt <| And.intro h1 <| And.intro hw <| hli) ct35a ?_
       exact ⟨⟨i + 1, by omega⟩, (Wt trivial [1, 2, 182, 183] [0, 1, 2, 3]), by simp only; omega⟩
     · obtain rfl : i = n := by omega
       have hlt2 : ¬ (i : Int) < (i : Int) := by omega
       repeat refine St hlt2 ct35a ?_
       exact Fin (And.intro @boxN.eq_def <| @wT_st) [] [0, 1, 3]
   · rw [hk] at hG
     simp only [rA, rdAK] at hG
     cases hG
     have d1 : ((c.toNat : Int) == 1) = false := c8_ne 1 a1
     have d2 : ((c.toNat : Int) == 2) = false := c8_ne 2 a2
     have d5 : ((c.toNat : Int) == 5) = false := c8_ne 5 a5
     have d9 : ((c.toNat : Int) == 9) = false := c8_ne 9 a9
     have d3 : ((c.toNat : Int) == 3) = false := c8_ne 3 a3
     have d4 : ((c.toNat : Int) == 4) = false := c8_ne 4 a4
     have d6 : ((c.toNat : Int) == 6) = false := c8_ne 6 a6
     have d7 : ((c.toNat : Int) == 7) = false := c8_ne 7 a7
     have d8 : ((c.toNat : Int) == 8) = false := c8_ne 8 a8
     have d10 : ((c.toNat : Int) == 10) = false := c8_ne 10 a10
     clear a1 a2 a5 a9 a3 a4 a6 a7 a8 a10
     simp only [bareA]
     simp only [ansS_eq, wT_st, rX_st]
     repeat refine St (And.intro (And.intro @gentry.eq_1 <| @gentry.eq_2) <| And.intro d1 <| And.intro d2 <| And.intro d5 <| And.intro d9 <| And.intro d3 <| And.intro d4 <| And.intro d6 <| And.intro d7 <| And.intro d8 <| d10) ct35a ?_
     exact Fin @bareA.eq_def [] [0, 1]
end Go.Fw

end

section
namespace Go.Fw
open Go Go.Proofs
def entsT (l : List TE) : T := .sq 69 (l.map eT)
def namsT (l : List H32) : T := .sq 32 (l.map hT)
theorem entsT_inj (a b : List TE) (h : entsT a = entsT b) : a = b := by unfold entsT at h; simp only [T.sq.injEq, true_and] at h; exact map_inj eT_inj _ _ h
theorem namsT_inj (a b : List H32) (h : namsT a = namsT b) : a = b := by unfold namsT at h; simp only [T.sq.injEq, true_and] at h; exact map_inj hT_inj _ _ h
theorem entE_getD (l : List TE) (k : Nat) (h : k < l.length) : (l.map eT).getD k default = eT (l.getD k dE) := by simp [h]
theorem namE_getD (l : List H32) (k : Nat) (h : k < l.length) : (l.map hT).getD k default = hT (l.getD k zH) := by simp [h]
theorem n32_beq (a b : UInt32) : ((a.toNat : Int) == (b.toNat : Int)) = decide (a = b) := by
 by_cases h : a = b
 · subst h; rw [decide_eq_true rfl]; exact beq_self_eq_true _
 · rw [decide_eq_false h, beq_eq_false_iff_ne]; exact fun hh => h (n32_inj hh)
theorem n64_beq (a b : UInt64) : ((a.toNat : Int) == (b.toNat : Int)) = decide (a = b) := by
 by_cases h : a = b
 · subst h; rw [decide_eq_true rfl]; exact beq_self_eq_true _
 · rw [decide_eq_false h, beq_eq_false_iff_ne]; exact fun hh => h (n64_inj hh)
theorem h32_beq (a b : H32) : (a.1 == b.1) = decide (a = b) := by
 by_cases h : a = b
 · subst h; rw [decide_eq_true rfl]; exact beq_self_eq_true _
 · rw [decide_eq_false h, beq_eq_false_iff_ne]; exact fun hh => h (Subtype.ext hh)
theorem int_beq (a b : Int) : (a == b) = decide (a = b) := by
 by_cases h : a = b
 · subst h; rw [decide_eq_true rfl]; exact beq_self_eq_true _
 · rw [decide_eq_false h, beq_eq_false_iff_ne]; exact h
theorem ent_beq (x y : TE) : (((x.tx.1 == y.tx.1) && ((x.idx.toNat : Int) == (y.idx.toNat : Int))) && (((x.val.toNat : Int) == (y.val.toNat : Int)) && ((x.plan == y.plan) && ((x.state == y.state) && (((x.hgt.toNat : Int) == (y.hgt.toNat : Int)) && (x.tpl.1 == y.tpl.1)))))) = decide (x = y) := by
 rw [h32_beq, n32_beq, n64_beq, int_beq, int_beq, n32_beq, h32_beq]
 obtain ⟨a1, a2, a3, a4, a5, a6, a7⟩ := x
 obtain ⟨b1, b2, b3, b4, b5, b6, b7⟩ := y
 simp only [Bool.and_true, TE.mk.injEq]
 rw [Bool.eq_iff_iff]
 simp only [Bool.and_eq_true, decide_eq_true_eq, and_assoc]
noncomputable def F60 : Fun
 | [x, y] => match inv entsT x, inv entsT y with
   | some l, some m => some ([], .t (.bool (decide (l = m))))
   | _, _ => none
 | _ => none
theorem ct60 : CT [] [0, 1, 4, 5, 10, 12, 13, 14, 24] [(6, [⟨0, [0], [], []⟩, ⟨0, [5], [], []⟩, ⟨1, [16, 17], [], []⟩, ⟨1, [18], [2], []⟩, ⟨0, [1], [], []⟩, ⟨0, [5], [], []⟩, ⟨1, [20, 21], [], []⟩, ⟨1, [22], [6], []⟩, ⟨0, [19, 23], [2, 3, 6, 7], []⟩])] := ⟨GClOk.nil _⟩
set_option maxHeartbeats 2000000 in
theorem c60 : ACon Try.prog 60 F60 := by
 refine aconc E_ok (rs := [.tmp 4 4]) Try.func60 rfl Try.ntmps60 (by kernel_rfl) rfl (by decide) F60 (np := 2) ?_ ?_
 · intro ts h; unfold F60; split <;> first | rfl | (simp at h; done)
 intro ts H r hF hwf
 unfold F60 at hF
 split at hF <;> try (cases hF; done)
 split at hF <;> try (cases hF; done)
 rename_i l m hl hm
 cases hF
 have hwl := hwf _ (List.mem_cons_self ..)
 obtain rfl := inv_inv hl
 obtain rfl := inv_inv hm
 dsimp only [entsT]
 have ml : (l.map eT).length = l.length := List.length_map ..
 have mm : (m.map eT).length = m.length := List.length_map ..
 have hlm : l.length ≤ 9223372036854775807 := by
   have := hwl
   simp only [entsT, T.wf, List.length_map] at this
   have h2 := this.2.1
   unfold maxLen at h2
   omega
 by_cases hne : l.length = m.length
 case neg =>
   have hd : decide (l = m) = false := decide_eq_false fun h => hne (by rw [h])
   rw [hd]
   have hb : ((l.length : Int) != (m.length : Int)) = true := by rw [bne_iff_ne]; omega
   repeat refine St (And.intro ml <| And.intro mm <| hb) ct60 ?_
   exact AWP.ret (Fin trivial [] [])
 have hb : ((l.length : Int) != (m.length : Int)) = false := by rw [bne_eq_false_iff_eq]; omega
 repeat refine St (And.intro ml <| And.intro mm <| hb) ct60 ?_
 refine AWP.loop (G := { i : Nat // i ≤ l.length ∧ l.take i = m.take i }) (fun i => ⟨[(0, .t (.sq 69 (l.map eT))), (1, .t (.sq 69 (m.map eT))), (12, .t (.int .i64 (l.length : Int))), (13, .t (.int .i64 (i.1 : Int)))], []⟩) (fun i => l.length - i.1) ⟨0, by omega, rfl⟩ (Wt ml [0, 1, 12, 13] []) ?_
 rintro ⟨i, hi, hti⟩
 dsimp only
 by_cases hlt : i < l.length
 · have hlt2 : (i : Int) < (l.length : Int) := by omega
   have hltm : i < m.length := by omega
   have g1 := entE_getD l i hlt
   have g2 := entE_getD m i hltm
   have hw : IntKind.i64.wrap ((i : Int) + 1) = ((i + 1 : Nat) : Int) := by rw [wrap_i64 (by omega) (by omega)]; omega
   have hx1 : ∀ x : TE, x = x := fun _ => rfl
   obtain ⟨x, hx⟩ : ∃ x, l.getD i dE = x := ⟨_, rfl⟩
   obtain ⟨y, hy⟩ : ∃ y, m.getD i dE = y := ⟨_, rfl⟩
   rw [hx] at g1
   rw [hy] at g2
   have hcmp := ent_beq x y
   have hs1 := x.tx.2
   have hs2 := x.tpl.2
   have hs3 := y.tx.2
   have hs4 := y.tpl.2
   rw [eT_st] at g1 g2
   by_cases hxy : x = y
   · rw [decide_eq_true hxy] at hcmp
     repeat refine St (And.intro hlt2 <| And.intro hlt <| And.intro hltm <| And.intro ml <| And.intro mm <| And.intro g1 <| And.intro g2 <| And.intro hcmp <| And.intro hw <| And.intro hs1 <| And.intro hs2 <| And.intro hs3 <| hs4) ct60 ?_
     exact ⟨⟨i + 1, by omega, take_eq_succ dE hlt hltm hti (by rw [hx, hy]; exact hxy)⟩, (Wt trivial [0, 1, 12, 13] []), by simp only; omega⟩
   · rw [decide_eq_false hxy] at hcmp
     have hd : decide (l = m) = false := decide_eq_false fun h => hxy (by rw [← hx, ← hy, h])
     rw [hd]
     repeat refine St (And.intro hlt2 <| And.intro hlt <| And.intro hltm <| And.intro ml <| And.intro mm <| And.intro g1 <| And.intro g2 <| And.intro hcmp <| And.intro hs1 <| And.intro hs2 <| And.intro hs3 <| hs4) ct60 ?_
     exact AWP.ret (Fin trivial [] [])
 · obtain rfl : i = l.length := by omega
   have hlt2 : ¬ (l.length : Int) < (l.length : Int) := by omega
   have hd : decide (l = m) = true := decide_eq_true (take_eq_all hne hti)
   rw [hd]
   repeat refine St hlt2 ct60 ?_
   exact AWP.ret (Fin trivial [] [])
noncomputable def F61 : Fun
 | [x, y] => match inv namsT x, inv namsT y with
   | some l, some m => some ([], .t (.bool (decide (l = m))))
   | _, _ => none
 | _ => none
theorem ct61 : CT [] [0, 1, 4, 5, 10, 12, 13, 14, 24] [(6, [⟨0, [0], [], []⟩, ⟨0, [5], [], []⟩, ⟨1, [16, 17], [], []⟩, ⟨1, [18], [2], []⟩, ⟨0, [1], [], []⟩, ⟨0, [5], [], []⟩, ⟨1, [20, 21], [], []⟩, ⟨1, [22], [6], []⟩, ⟨0, [19, 23], [2, 3, 6, 7], []⟩])] := ⟨GClOk.nil _⟩
set_option maxHeartbeats 2000000 in
theorem c61 : ACon Try.prog 61 F61 := by
 refine aconc E_ok (rs := [.tmp 4 4]) Try.func61 rfl Try.ntmps61 (by kernel_rfl) rfl (by decide) F61 (np := 2) ?_ ?_
 · intro ts h; unfold F61; split <;> first | rfl | (simp at h; done)
 intro ts H r hF hwf
 unfold F61 at hF
 split at hF <;> try (cases hF; done)
 split at hF <;> try (cases hF; done)
 rename_i l m hl hm
 cases hF
 have hwl := hwf _ (List.mem_cons_self ..)
 obtain rfl := inv_inv hl
 obtain rfl := inv_inv hm
 dsimp only [namsT]
 have ml : (l.map hT).length = l.length := List.length_map ..
 have mm : (m.map hT).length = m.length := List.length_map ..
 have hlm : l.length ≤ 9223372036854775807 := by
   have := hwl
   simp only [namsT, T.wf, List.length_map] at this
   have h2 := this.2.1
   unfold maxLen at h2
   omega
 by_cases hne : l.length = m.length
 case neg =>
   have hd : decide (l = m) = false := decide_eq_false fun h => hne (by rw [h])
   rw [hd]
   have hb : ((l.length : Int) != (m.length : Int)) = true := by rw [bne_iff_ne]; omega
   repeat refine St (And.intro ml <| And.intro mm <| hb) ct61 ?_
   exact AWP.ret (Fin trivial [] [])
 have hb : ((l.length : Int) != (m.length : Int)) = false := by rw [bne_eq_false_iff_eq]; omega
 repeat refine St (And.intro ml <| And.intro mm <| hb) ct61 ?_
 refine AWP.loop (G := { i : Nat // i ≤ l.length ∧ l.take i = m.take i }) (fun i => ⟨[(0, .t (.sq 32 (l.map hT))), (1, .t (.sq 32 (m.map hT))), (12, .t (.int .i64 (l.length : Int))), (13, .t (.int .i64 (i.1 : Int)))], []⟩) (fun i => l.length - i.1) ⟨0, by omega, rfl⟩ (Wt ml [0, 1, 12, 13] []) ?_
 rintro ⟨i, hi, hti⟩
 dsimp only
 by_cases hlt : i < l.length
 · have hlt2 : (i : Int) < (l.length : Int) := by omega
   have hltm : i < m.length := by omega
   have g1 := namE_getD l i hlt
   have g2 := namE_getD m i hltm
   have hw : IntKind.i64.wrap ((i : Int) + 1) = ((i + 1 : Nat) : Int) := by rw [wrap_i64 (by omega) (by omega)]; omega
   have hx1 : ∀ x : H32, x = x := fun _ => rfl
   obtain ⟨x, hx⟩ : ∃ x, l.getD i zH = x := ⟨_, rfl⟩
   obtain ⟨y, hy⟩ : ∃ y, m.getD i zH = y := ⟨_, rfl⟩
   rw [hx] at g1
   rw [hy] at g2
   have hcmp := h32_beq x y
   have hs1 := x.2
   have hs2 := y.2
   rw [show ∀ h : H32, hT h = .ba 32 h.1 from fun _ => rfl] at g1 g2
   by_cases hxy : x = y
   · rw [decide_eq_true hxy] at hcmp
     repeat refine St (And.intro hlt2 <| And.intro hlt <| And.intro hltm <| And.intro ml <| And.intro mm <| And.intro g1 <| And.intro g2 <| And.intro hcmp <| And.intro hw <| And.intro hs1 <| hs2) ct61 ?_
     exact ⟨⟨i + 1, by omega, take_eq_succ zH hlt hltm hti (by rw [hx, hy]; exact hxy)⟩, (Wt trivial [0, 1, 12, 13] []), by simp only; omega⟩
   · rw [decide_eq_false hxy] at hcmp
     have hd : decide (l = m) = false := decide_eq_false fun h => hxy (by rw [← hx, ← hy, h])
     rw [hd]
     repeat refine St (And.intro hlt2 <| And.intro hlt <| And.intro hltm <| And.intro ml <| And.intro mm <| And.intro g1 <| And.intro g2 <| And.intro hcmp <| And.intro hs1 <| hs2) ct61 ?_
     exact AWP.ret (Fin trivial [] [])
 · obtain rfl : i = l.length := by omega
   have hlt2 : ¬ (l.length : Int) < (l.length : Int) := by omega
   have hd : decide (l = m) = true := decide_eq_true (take_eq_all hne hti)
   rw [hd]
   repeat refine St hlt2 ct61 ?_
   exact AWP.ret (Fin trivial [] [])
theorem eqe_c (l m : List TE) : F60 [.sq 69 (l.map eT), .sq 69 (m.map eT)] = some ([], .t (.bool (decide (l = m)))) := by
 have e1 : ∀ l, T.sq 69 (l.map eT) = entsT l := fun _ => rfl
 rw [e1, e1]
 simp only [F60, inv_of entsT_inj]
theorem eqn_c (l m : List H32) : F61 [.sq 32 (l.map hT), .sq 32 (m.map hT)] = some ([], .t (.bool (decide (l = m)))) := by
 have e1 : ∀ l, T.sq 32 (l.map hT) = namsT l := fun _ => rfl
 rw [e1, e1]
 simp only [F61, inv_of namsT_inj]
end Go.Fw

end

section
namespace Go.Fw
open Go Go.Proofs
theorem w4_beq (x y : W4) : (((x.a.toNat : Int) == (y.a.toNat : Int)) && (((x.b.toNat : Int) == (y.b.toNat : Int)) && (((x.c.toNat : Int) == (y.c.toNat : Int)) && ((x.d.toNat : Int) == (y.d.toNat : Int))))) = decide (x = y) := by
 rw [n64_beq, n64_beq, n64_beq, n64_beq]
 obtain ⟨a1, a2, a3, a4⟩ := x
 obtain ⟨b1, b2, b3, b4⟩ := y
 simp only [W4.mk.injEq]
 rw [Bool.eq_iff_iff]
 simp only [Bool.and_eq_true, decide_eq_true_eq, and_assoc]
theorem n5_ex (u : N5) : ∃ a b c d e, u = ⟨[a, b, c, d, e], rfl⟩ := by
 obtain ⟨l, hl⟩ := u
 match l, hl with
 | [a, b, c, d, e], _ => exact ⟨a, b, c, d, e, rfl⟩
theorem n5_beq (a b c d e a' b' c' d' e' : UInt32) : (((a.toNat : Int) == (a'.toNat : Int)) && (((b.toNat : Int) == (b'.toNat : Int)) && (((c.toNat : Int) == (c'.toNat : Int)) && (((d.toNat : Int) == (d'.toNat : Int)) && ((e.toNat : Int) == (e'.toNat : Int)))))) = decide ((⟨[a, b, c, d, e], rfl⟩ : N5) = ⟨[a', b', c', d', e'], rfl⟩) := by
 rw [n32_beq, n32_beq, n32_beq, n32_beq, n32_beq, Bool.eq_iff_iff]
 simp only [Bool.and_eq_true, decide_eq_true_eq, Subtype.mk.injEq, List.cons.injEq, and_true]
theorem n8_beq (a b : UInt8) : ((a.toNat : Int) == (b.toNat : Int)) = decide (a = b) := by
 by_cases h : a = b
 · subst h; rw [decide_eq_true rfl]; exact beq_self_eq_true _
 · rw [decide_eq_false h, beq_eq_false_iff_ne]; exact fun hh => h (n8_inj hh)
theorem bool_beq (a b : Bool) : (a == b) = decide (a = b) := by cases a <;> cases b <;> rfl
theorem by_beq (a b : List UInt8) : (a == b) = decide (a = b) := by
 by_cases h : a = b
 · subst h; rw [decide_eq_true rfl]; exact beq_self_eq_true _
 · rw [decide_eq_false h, beq_eq_false_iff_ne]; exact h
theorem lapp1 (l : List Oper) : List.append [] l = l := rfl
theorem lapp2 (x : Oper) (l m : List Oper) : List.append (x :: l) m = x :: List.append l m := rfl
noncomputable def F36 : Fun
 | [x, y] => match inv aT x, inv aT y with
   | some a, some b => some ([], .t (.bool (decide (a = b))))
   | _, _ => none
 | _ => none
theorem ct36 : CT [(49, ⟨[false, false], treeG F49⟩), (60, ⟨[false, false], treeG F60⟩), (61, ⟨[false, false], treeG F61⟩)] [0, 1, 2, 3, 4] [] := ⟨(.cons c49.g (.cons c60.g (.cons c61.g (.nil _))))⟩
set_option maxRecDepth 20000 in
set_option maxHeartbeats 8000000 in
theorem c36 : ACon Try.prog 36 F36 := by
 refine aconc E_ok (rs := [.tmp 4 4]) Try.func36 rfl Try.ntmps36 (by kernel_rfl) rfl (by decide) F36 (np := 2) ?_ ?_
 · intro ts h; unfold F36; split <;> first | rfl | (simp at h; done)
 intro ts H r hF hwf
 unfold F36 at hF
 split at hF <;> try (cases hF; done)
 split at hF <;> try (cases hF; done)
 rename_i a b ha hb
 cases hF
 obtain rfl := inv_inv ha
 obtain rfl := inv_inv hb
 clear ha hb hwf
 obtain ⟨o, e, n, g, w, v, f, x, E, u, N⟩ := a
 obtain ⟨o', e', n', g', w', v', f', x', E', u', N'⟩ := b
 rw [aT_st, aT_st]
 dsimp only
 have hn1 := n.2
 have hn2 := n'.2
 obtain ⟨u0, u1, u2, u3, u4, hu⟩ := n5_ex u
 obtain ⟨y0, y1, y2, y3, y4, hu'⟩ := n5_ex u'
 subst hu
 subst hu'
 simp only [wT, List.map, nT]
 have hbe : F49 [.by x, .by x'] = some ([], .t (.bool (x == x'))) := rfl
 have hee := eqe_c E E'
 have hne := eqn_c N N'
 have b1 := n8_beq o o'
 have b2 := int_beq e e'
 have b3 := h32_beq n n'
 have b4 := n32_beq g g'
 have b5 := w4_beq w w'
 have b6 := n64_beq v v'
 have b7 := bool_beq f f'
 have b8 := n5_beq u0 u1 u2 u3 u4 y0 y1 y2 y3 y4
 have b9 := by_beq x x'
 generalize hA : (⟨[u0, u1, u2, u3, u4], rfl⟩ : N5) = u at *
 generalize hB : (⟨[y0, y1, y2, y3, y4], rfl⟩ : N5) = u' at *
 rw [b9] at hbe
 clear hA hB b9
 by_cases k0 : o = o'
 case neg =>
   rw [decide_eq_false k0] at b1
   have hd : decide ((⟨o, e, n, g, w, v, f, x, E, u, N⟩ : TA) = ⟨o', e', n', g', w', v', f', x', E', u', N'⟩) = false := decide_eq_false fun hh => k0 (TA.mk.inj hh).1
   rw [hd]
   repeat refine St (And.intro @lapp1 <| And.intro @lapp2 <| And.intro hn1 <| And.intro hn2 <| b1) ct36 ?_
   exact AWP.ret (Fin trivial [] [])
 rw [decide_eq_true k0] at b1
 by_cases k1 : e = e'
 case neg =>
   rw [decide_eq_false k1] at b2
   have hd : decide ((⟨o, e, n, g, w, v, f, x, E, u, N⟩ : TA) = ⟨o', e', n', g', w', v', f', x', E', u', N'⟩) = false := decide_eq_false fun hh => k1 (TA.mk.inj hh).2.1
   rw [hd]
   repeat refine St (And.intro @lapp1 <| And.intro @lapp2 <| And.intro hn1 <| And.intro hn2 <| And.intro b1 <| b2) ct36 ?_
   exact AWP.ret (Fin trivial [] [])
 rw [decide_eq_true k1] at b2
 by_cases k2 : n = n'
 case neg =>
   rw [decide_eq_false k2] at b3
   have hd : decide ((⟨o, e, n, g, w, v, f, x, E, u, N⟩ : TA) = ⟨o', e', n', g', w', v', f', x', E', u', N'⟩) = false := decide_eq_false fun hh => k2 (TA.mk.inj hh).2.2.1
   rw [hd]
   repeat refine St (And.intro @lapp1 <| And.intro @lapp2 <| And.intro hn1 <| And.intro hn2 <| And.intro b1 <| And.intro b2 <| b3) ct36 ?_
   exact AWP.ret (Fin trivial [] [])
 rw [decide_eq_true k2] at b3
 by_cases k3 : g = g'
 case neg =>
   rw [decide_eq_false k3] at b4
   have hd : decide ((⟨o, e, n, g, w, v, f, x, E, u, N⟩ : TA) = ⟨o', e', n', g', w', v', f', x', E', u', N'⟩) = false := decide_eq_false fun hh => k3 (TA.mk.inj hh).2.2.2.1
   rw [hd]
   repeat refine St (And.intro @lapp1 <| And.intro @lapp2 <| And.intro hn1 <| And.intro hn2 <| And.intro b1 <| And.intro b2 <| And.intro b3 <| b4) ct36 ?_
   exact AWP.ret (Fin trivial [] [])
 rw [decide_eq_true k3] at b4
 by_cases k4 : w = w'
 case neg =>
   rw [decide_eq_false k4] at b5
   have hd : decide ((⟨o, e, n, g, w, v, f, x, E, u, N⟩ : TA) = ⟨o', e', n', g', w', v', f', x', E', u', N'⟩) = false := decide_eq_false fun hh => k4 (TA.mk.inj hh).2.2.2.2.1
   rw [hd]
   repeat refine St (And.intro @lapp1 <| And.intro @lapp2 <| And.intro hn1 <| And.intro hn2 <| And.intro b1 <| And.intro b2 <| And.intro b3 <| And.intro b4 <| b5) ct36 ?_
   exact AWP.ret (Fin trivial [] [])
 rw [decide_eq_true k4] at b5
 by_cases k5 : v = v'
 case neg =>
   rw [decide_eq_false k5] at b6
   have hd : decide ((⟨o, e, n, g, w, v, f, x, E, u, N⟩ : TA) = ⟨o', e', n', g', w', v', f', x', E', u', N'⟩) = false := decide_eq_false fun hh => k5 (TA.mk.inj hh).2.2.2.2.2.1
   rw [hd]
   repeat refine St (And.intro @lapp1 <| And.intro @lapp2 <| And.intro hn1 <| And.intro hn2 <| And.intro b1 <| And.intro b2 <| And.intro b3 <| And.intro b4 <| And.intro b5 <| b6) ct36 ?_
   exact AWP.ret (Fin trivial [] [])
 rw [decide_eq_true k5] at b6
 by_cases k6 : f = f'
 case neg =>
   rw [decide_eq_false k6] at b7
   have hd : decide ((⟨o, e, n, g, w, v, f, x, E, u, N⟩ : TA) = ⟨o', e', n', g', w', v', f', x', E', u', N'⟩) = false := decide_eq_false fun hh => k6 (TA.mk.inj hh).2.2.2.2.2.2.1
   rw [hd]
   repeat refine St (And.intro @lapp1 <| And.intro @lapp2 <| And.intro hn1 <| And.intro hn2 <| And.intro b1 <| And.intro b2 <| And.intro b3 <| And.intro b4 <| And.intro b5 <| And.intro b6 <| b7) ct36 ?_
   exact AWP.ret (Fin trivial [] [])
 rw [decide_eq_true k6] at b7
 by_cases k7 : u = u'
 case neg =>
   rw [decide_eq_false k7] at b8
   have hd : decide ((⟨o, e, n, g, w, v, f, x, E, u, N⟩ : TA) = ⟨o', e', n', g', w', v', f', x', E', u', N'⟩) = false := decide_eq_false fun hh => k7 (TA.mk.inj hh).2.2.2.2.2.2.2.2.2.1
   rw [hd]
   repeat refine St (And.intro @lapp1 <| And.intro @lapp2 <| And.intro hn1 <| And.intro hn2 <| And.intro b1 <| And.intro b2 <| And.intro b3 <| And.intro b4 <| And.intro b5 <| And.intro b6 <| And.intro b7 <| b8) ct36 ?_
   exact AWP.ret (Fin trivial [] [])
 rw [decide_eq_true k7] at b8
 by_cases k8 : x = x'
 case neg =>
   rw [decide_eq_false k8] at hbe
   have hd : decide ((⟨o, e, n, g, w, v, f, x, E, u, N⟩ : TA) = ⟨o', e', n', g', w', v', f', x', E', u', N'⟩) = false := decide_eq_false fun hh => k8 (TA.mk.inj hh).2.2.2.2.2.2.2.1
   rw [hd]
   repeat refine St (And.intro @lapp1 <| And.intro @lapp2 <| And.intro hn1 <| And.intro hn2 <| And.intro b1 <| And.intro b2 <| And.intro b3 <| And.intro b4 <| And.intro b5 <| And.intro b6 <| And.intro b7 <| And.intro b8 <| hbe) ct36 ?_
   exact AWP.ret (Fin trivial [] [])
 rw [decide_eq_true k8] at hbe
 by_cases k9 : E = E'
 case neg =>
   rw [decide_eq_false k9] at hee
   have hd : decide ((⟨o, e, n, g, w, v, f, x, E, u, N⟩ : TA) = ⟨o', e', n', g', w', v', f', x', E', u', N'⟩) = false := decide_eq_false fun hh => k9 (TA.mk.inj hh).2.2.2.2.2.2.2.2.1
   rw [hd]
   repeat refine St (And.intro @lapp1 <| And.intro @lapp2 <| And.intro hn1 <| And.intro hn2 <| And.intro b1 <| And.intro b2 <| And.intro b3 <| And.intro b4 <| And.intro b5 <| And.intro b6 <| And.intro b7 <| And.intro b8 <| And.intro hbe <| hee) ct36 ?_
   exact AWP.ret (Fin trivial [] [])
 rw [decide_eq_true k9] at hee
 by_cases k10 : N = N'
 case neg =>
   rw [decide_eq_false k10] at hne
   have hd : decide ((⟨o, e, n, g, w, v, f, x, E, u, N⟩ : TA) = ⟨o', e', n', g', w', v', f', x', E', u', N'⟩) = false := decide_eq_false fun hh => k10 (TA.mk.inj hh).2.2.2.2.2.2.2.2.2.2
   rw [hd]
   repeat refine St (And.intro @lapp1 <| And.intro @lapp2 <| And.intro hn1 <| And.intro hn2 <| And.intro b1 <| And.intro b2 <| And.intro b3 <| And.intro b4 <| And.intro b5 <| And.intro b6 <| And.intro b7 <| And.intro b8 <| And.intro hbe <| And.intro hee <| hne) ct36 ?_
   exact AWP.ret (Fin trivial [] [])
 rw [decide_eq_true k10] at hne
 have hd : decide ((⟨o, e, n, g, w, v, f, x, E, u, N⟩ : TA) = ⟨o', e', n', g', w', v', f', x', E', u', N'⟩) = true := decide_eq_true (by rw [k0, k1, k2, k3, k4, k5, k6, k7, k8, k9, k10])
 rw [hd]
 repeat refine St (And.intro @lapp1 <| And.intro @lapp2 <| And.intro hn1 <| And.intro hn2 <| And.intro b1 <| And.intro b2 <| And.intro b3 <| And.intro b4 <| And.intro b5 <| And.intro b6 <| And.intro b7 <| And.intro b8 <| And.intro hbe <| And.intro hee <| hne) ct36 ?_
 exact AWP.ret (Fin trivial [] [])
theorem samea_c (a b : TA) : F36 [aT a, aT b] = some ([], .t (.bool (decide (a = b)))) := by
 simp only [F36, inv_of aT_inj]
end Go.Fw

end

section
namespace Go.Fw
open Go Go.Proofs
theorem noA_T : aT noA = .st [.int .u8 0, .int .i64 0, .ba 32 (zby 32), .int .u32 0, .ar 4 1 [.int .u64 0, .int .u64 0, .int .u64 0, .int .u64 0], .int .u64 0, .bool false, .by [], .sq 69 [], .ar 5 1 [.int .u32 0, .int .u32 0, .int .u32 0, .int .u32 0, .int .u32 0], .sq 32 []] := rfl
theorem bareA_T (c : UInt8) (e : Int) : aT (bareA c e) = .st [.int .u8 (c.toNat : Int), .int .i64 e, .ba 32 (zby 32), .int .u32 0, .ar 4 1 [.int .u64 0, .int .u64 0, .int .u64 0, .int .u64 0], .int .u64 0, .bool false, .by [], .sq 69 [], .ar 5 1 [.int .u32 0, .int .u32 0, .int .u32 0, .int .u32 0, .int .u32 0], .sq 32 []] := rfl
theorem rA_else (r : TA × RSt) {k : Nat} (h5 : k ≠ 5) (h8 : k ≠ 8) : rA r k = some ([rX r.2, ansS r.1 .nil .nil], .tup []) := by
 unfold rA; split
 · exact (h5 rfl).elim
 · exact (h8 rfl).elim
 · rfl
theorem rdAK_ents (op : UInt8) {k : Nat} (s : RSt) (h : k ≠ 5) : (rdAK op k s).1.ents = [] := by
 unfold rdAK; split <;> first | rfl | exact (h rfl).elim
theorem rdAK_nams (op : UInt8) {k : Nat} (s : RSt) (h : k ≠ 8) : (rdAK op k s).1.nams = [] := by
 unfold rdAK; split <;> first | rfl | exact (h rfl).elim
noncomputable def F33 : Fun
 | [.by b] => if b.length ≤ 549755000000 then some ([], .tup [.t (aT (readA b).1), .t (.bool (readA b).2)]) else none
 | _ => none
theorem ct33 : CT [(35, ⟨[true, true], G35a⟩), (47, ⟨[false], treeG F47⟩), (48, ⟨[true], G48⟩)] [0, 2, 3, 4, 5, 21, 37] [(4, [⟨0, [0], [], []⟩, ⟨1, [27], [], []⟩, ⟨1, [28], [1], []⟩, ⟨0, [0], [], []⟩, ⟨1, [30], [], []⟩, ⟨1, [31], [4], []⟩, ⟨1, [32], [4, 5], []⟩, ⟨1, [29, 33], [1, 2, 4, 5, 6], []⟩, ⟨1, [], [], []⟩, ⟨2, [5, 34], [1, 2, 4, 5, 6, 7, 8], []⟩]), (7, [⟨1, [5], [], []⟩, ⟨0, [4], [], []⟩, ⟨0, [42], [], []⟩, ⟨0, [43], [], []⟩, ⟨0, [44], [], [1]⟩, ⟨0, [45], [], []⟩, ⟨0, [46], [], []⟩, ⟨0, [4], [], []⟩, ⟨0, [48], [], []⟩, ⟨0, [49], [], []⟩, ⟨0, [50], [], [1]⟩, ⟨0, [51], [], [1]⟩, ⟨0, [52], [], []⟩, ⟨0, [47, 53], [], []⟩, ⟨2, [2, 41], [0], [1]⟩, ⟨0, [54], [0, 14], []⟩])] := ⟨(.cons g35a (.cons c47.g (.cons g48 (.nil _))))⟩
set_option maxRecDepth 20000 in
set_option maxHeartbeats 8000000 in
theorem c33 : ACon Try.prog 33 F33 := by
 refine aconc E_ok (rs := [.cell 2 47, .tmp 3 4]) Try.func33 rfl Try.ntmps33 (by kernel_rfl) rfl (by decide) F33 (np := 1) ?_ ?_
 · intro ts h; unfold F33; split <;> first | rfl | (simp at h; done)
 intro ts H r hF hwf
 unfold F33 at hF
 split at hF <;> try (cases hF; done)
 rename_i b
 split at hF
 case isFalse => cases hF
 rename_i hb
 cases hF
 have hshort : ∀ b : List UInt8, (b.length : Int) < 2 → readA b = (noA, false) := by
   intro b h
   match b, h with
   | [], _ => rfl
   | [_], _ => rfl
   | _ :: _ :: _, h => simp at h; omega
 by_cases h2 : (b.length : Int) < 2
 · rw [hshort b h2, noA_T]
   repeat refine St h2 ct33 ?_
   exact AWP.ret (Fin trivial [] [])
 obtain ⟨c, e, r, hB⟩ : ∃ c e r, b = c :: e :: r := by
   match b, h2 with
   | [], h2 => simp at h2
   | [_], h2 => simp at h2
   | c :: e :: r, _ => exact ⟨c, e, r, rfl⟩
 have hB0 : b.getD 0 0 = c := by rw [hB]; rfl
 have hB1 : b.getD 1 0 = e := by rw [hB]; rfl
 have hBd : b.drop 2 = r := by rw [hB]; rfl
 have hBl : b.length = r.length + 2 := by rw [hB]; rfl
 have k0 : ¬ (b.length : Int) < 2 := h2
 have k1 : 0 < b.length := by omega
 have k2 : 1 < b.length := by omega
 have k3 : 2 ≤ b.length := by omega
 have k4 : (0 : Int) < (b.length : Int) := by omega
 have k5 : (1 : Int) < (b.length : Int) := by omega
 have h1 := isop_c c
 have hel := e.toNat_lt
 have hwe : IntKind.i64.wrap (e.toNat : Int) = (e.toNat : Int) := wrap_i64 (by omega) (by omega)
 cases hc : isOp c with
 | false =>
   rw [hB, readA_no (by rw [hc]; simp), ← hB, noA_T]
   rw [hc] at h1
   repeat refine St (And.intro k0 <| And.intro k1 <| And.intro k2 <| And.intro k3 <| And.intro k4 <| And.intro k5 <| And.intro hB0 <| And.intro hB1 <| h1) ct33 ?_
   exact AWP.ret (Fin trivial [] [])
 | true =>
 rw [hc] at h1
 by_cases h99 : 99 < (e.toNat : Int)
 · rw [hB, readA_no (by rintro ⟨_, h⟩; omega), ← hB, noA_T]
   repeat refine St (And.intro k0 <| And.intro k1 <| And.intro k2 <| And.intro k3 <| And.intro k4 <| And.intro k5 <| And.intro hB0 <| And.intro hB1 <| And.intro h1 <| h99) ct33 ?_
   exact AWP.ret (Fin trivial [] [])
 by_cases he : e = 0
 case neg =>
   rw [hB, readA_err hc (by omega) he, ← hB, bareA_T]
   have he0 : ((e.toNat : Int) == 0) = false := by rw [beq_eq_false_iff_ne]; intro hh; exact he (UInt8.toNat_inj.1 (by show e.toNat = 0; omega))
   by_cases hr : r = []
   · have hrd : decide (r = []) = true := decide_eq_true hr
     have hrl : ((r.length : Int) == 0) = true := by rw [hr]; rfl
     dsimp only
     rw [hrd]
     repeat refine St (And.intro k0 <| And.intro k1 <| And.intro k2 <| And.intro k3 <| And.intro k4 <| And.intro k5 <| And.intro hB0 <| And.intro hB1 <| And.intro hBd <| And.intro h1 <| And.intro h99 <| And.intro hwe <| And.intro he0 <| hrl) ct33 ?_
     exact AWP.ret (Fin trivial [] [])
   · have hrd : decide (r = []) = false := decide_eq_false hr
     have hrl : ((r.length : Int) == 0) = false := by
       have : 0 < r.length := List.length_pos_iff.2 hr
       rw [beq_eq_false_iff_ne]; omega
     dsimp only
     rw [hrd]
     repeat refine St (And.intro k0 <| And.intro k1 <| And.intro k2 <| And.intro k3 <| And.intro k4 <| And.intro k5 <| And.intro hB0 <| And.intro hB1 <| And.intro hBd <| And.intro h1 <| And.intro h99 <| And.intro hwe <| And.intro he0 <| hrl) ct33 ?_
     exact AWP.ret (Fin trivial [] [])
 subst he
 rw [hB, readA_yes hc, ← hB]
 have z8 : (((0 : UInt8).toNat : Nat) : Int) = 0 := rfl
 have hq : G35a [.bx (.t (.st [.by r, .bool false])), .bx (.t (bareN c))] [.st [.clo 1000071 [.ptr 0 0 []], .clo 1000072 [.ptr 0 0 []], .clo 1000073 [.ptr 0 0 []], .clo 1000074 [.ptr 0 0 []], .clo 1000075 [.ptr 0 0 []], .clo 1000076 [.ptr 0 0 []], .clo 1000077 [.ptr 0 0 []], .clo 1000078 [.ptr 0 0 []]], .ptr 1 0 []] = rA (rdAK c (kA c) ⟨r, 0⟩) (kA c) := by
   simp only [G35a, inv_of bareN_inj]
   rw [if_pos ⟨⟨trivial, trivial, trivial, trivial, trivial, trivial, trivial, trivial⟩, trivial, by omega⟩]
 have ht : G48 [.bx (.t (.st [.by r, .bool false]))] [.ptr 0 0 []] = some ([.bx (.t (.st [.by r, .bool false]))], .st [.clo 1000071 [.ptr 0 0 []], .clo 1000072 [.ptr 0 0 []], .clo 1000073 [.ptr 0 0 []], .clo 1000074 [.ptr 0 0 []], .clo 1000075 [.ptr 0 0 []], .clo 1000076 [.ptr 0 0 []], .clo 1000077 [.ptr 0 0 []], .clo 1000078 [.ptr 0 0 []]]) := rfl
 repeat refine St (And.intro k0 <| And.intro k1 <| And.intro k2 <| And.intro k3 <| And.intro k4 <| And.intro k5 <| And.intro hB0 <| And.intro hB1 <| And.intro hBd <| And.intro h1 <| And.intro h99 <| And.intro hwe <| z8) ct33 ?_
 refine AWP.weak (Wn 2 [7] 41 (.by [])) ?_
 have fin : ∀ (s : List UInt8) (q : Int), (q = 0 ∧ s = [] ∧ (decide (q = 0) && decide (s = [])) = true ∧ decide (q ≠ 0) = false ∧ ((s.length : Int) == 0) = true) ∨ (q = 0 ∧ (decide (q = 0) && decide (s = [])) = false ∧ decide (q ≠ 0) = false ∧ ((s.length : Int) == 0) = false) ∨ (q ≠ 0 ∧ (decide (q = 0) && decide (s = [])) = false ∧ decide (q ≠ 0) = true) := by
   intro s q
   by_cases hq : q = 0
   · by_cases hs : s = []
     · subst hq; subst hs; exact .inl ⟨rfl, rfl, rfl, rfl, rfl⟩
     · subst hq
       have : 0 < s.length := List.length_pos_iff.2 hs
       exact .inr (.inl ⟨rfl, by rw [decide_eq_false hs]; rfl, rfl, by rw [beq_eq_false_iff_ne]; omega⟩)
   · exact .inr (.inr ⟨hq, by rw [decide_eq_false hq]; rfl, decide_eq_true hq⟩)
 have hkl := kA_le c
 generalize hkk : kA c = k at *
 by_cases h5 : k = 5
 · subst h5
   simp only [rA] at hq
   have hna := rdAK_nams c (k := 5) ⟨r, 0⟩ (by decide)
   generalize rdAK c 5 ⟨r, 0⟩ = R at *
   obtain ⟨a, ⟨s, q⟩⟩ := R
   dsimp only at hq hna ⊢
   have hn := a.name.2
   simp only [boxE, rX_st, bareN, wT_st] at hq
   rw [aT_st, wT_st, hna]
   rcases fin s q with ⟨f1, f2, f3, f4, f5⟩ | ⟨f1, f3, f4, f5⟩ | ⟨f1, f3, f4⟩
   · rw [f3]
     rw [f4] at hq
     repeat refine St (And.intro ht <| And.intro hq <| And.intro hn <| And.intro z8 <| f5) ct33 ?_
     exact AWP.ret (Fin (@List.map_nil.{0, 0}) [3] [])
   · rw [f3]
     rw [f4] at hq
     repeat refine St (And.intro ht <| And.intro hq <| And.intro hn <| And.intro z8 <| f5) ct33 ?_
     exact AWP.ret (Fin (@List.map_nil.{0, 0}) [3] [])
   · rw [f3]
     rw [f4] at hq
     repeat refine St (And.intro ht <| And.intro hq <| And.intro hn <| And.intro z8 <| f3) ct33 ?_
     exact AWP.ret (Fin (@List.map_nil.{0, 0}) [3] [])
 by_cases h8 : k = 8
 · subst h8
   simp only [rA] at hq
   have hea := rdAK_ents c (k := 8) ⟨r, 0⟩ (by decide)
   generalize rdAK c 8 ⟨r, 0⟩ = R at *
   obtain ⟨a, ⟨s, q⟩⟩ := R
   dsimp only at hq hea ⊢
   have hn := a.name.2
   simp only [boxN, rX_st, bareN, wT_st] at hq
   rw [aT_st, wT_st, hea]
   rcases fin s q with ⟨f1, f2, f3, f4, f5⟩ | ⟨f1, f3, f4, f5⟩ | ⟨f1, f3, f4⟩
   · rw [f3]
     rw [f4] at hq
     repeat refine St (And.intro ht <| And.intro hq <| And.intro hn <| And.intro z8 <| f5) ct33 ?_
     exact AWP.ret (Fin (@List.map_nil.{0, 0}) [3] [])
   · rw [f3]
     rw [f4] at hq
     repeat refine St (And.intro ht <| And.intro hq <| And.intro hn <| And.intro z8 <| f5) ct33 ?_
     exact AWP.ret (Fin (@List.map_nil.{0, 0}) [3] [])
   · rw [f3]
     rw [f4] at hq
     repeat refine St (And.intro ht <| And.intro hq <| And.intro hn <| And.intro z8 <| f3) ct33 ?_
     exact AWP.ret (Fin (@List.map_nil.{0, 0}) [3] [])
 rw [rA_else _ h5 h8] at hq
 have hea := rdAK_ents c (k := k) ⟨r, 0⟩ h5
 have hna := rdAK_nams c (k := k) ⟨r, 0⟩ h8
 generalize rdAK c k ⟨r, 0⟩ = R at *
 obtain ⟨a, ⟨s, q⟩⟩ := R
 dsimp only at hq hea hna ⊢
 have hn := a.name.2
 simp only [ansS_eq, rX_st, bareN, wT_st] at hq
 rw [aT_st, wT_st, hea, hna]
 rcases fin s q with ⟨f1, f2, f3, f4, f5⟩ | ⟨f1, f3, f4, f5⟩ | ⟨f1, f3, f4⟩
 · rw [f3]
   rw [f4] at hq
   repeat refine St (And.intro ht <| And.intro hq <| And.intro hn <| And.intro z8 <| f5) ct33 ?_
   exact AWP.ret (Fin (@List.map_nil.{0, 0}) [] [])
 · rw [f3]
   rw [f4] at hq
   repeat refine St (And.intro ht <| And.intro hq <| And.intro hn <| And.intro z8 <| f5) ct33 ?_
   exact AWP.ret (Fin (@List.map_nil.{0, 0}) [] [])
 · rw [f3]
   rw [f4] at hq
   repeat refine St (And.intro ht <| And.intro hq <| And.intro hn <| And.intro z8 <| f3) ct33 ?_
   exact AWP.ret (Fin (@List.map_nil.{0, 0}) [] [])
theorem reada_c {b : List UInt8} (h : b.length ≤ 549755000000) : F33 [.by b] = some ([], .tup [.t (aT (readA b).1), .t (.bool (readA b).2)]) := if_pos h
noncomputable def F16 : Fun
 | [.by b] => if b.length ≤ 549755000000 then some ([], .tup [.t (aT (tkA b)), .t (.int .i64 (tkAe b))]) else none
 | _ => none
theorem ct16 : CT [(33, ⟨[false], treeG F33⟩)] [0, 2, 3, 4, 5, 12] [] := ⟨(.cons c33.g (.nil _))⟩
set_option maxHeartbeats 2000000 in
theorem c16 : ACon Try.prog 16 F16 := by
 refine aconc E_ok (rs := [.cell 2 47, .tmp 3 28]) Try.func16 rfl Try.ntmps16 (by kernel_rfl) rfl (by decide) F16 (np := 1) ?_ ?_
 · intro ts h; unfold F16; split <;> first | rfl | (simp at h; done)
 intro ts H r hF hwf
 unfold F16 at hF
 split at hF <;> try (cases hF; done)
 rename_i b
 split at hF
 case isFalse => cases hF
 rename_i hb
 cases hF
 have h1 := reada_c hb
 cases hr : (readA b).2 with
 | true =>
   rw [show tkA b = (readA b).1 from if_pos hr, show tkAe b = 0 from if_pos hr]
   rw [hr] at h1
   generalize (readA b).1 = q at *
   have hn := q.name.2
   rw [aT_st, wT_st] at h1 ⊢
   repeat refine St (And.intro h1 <| hn) ct16 ?_
   exact AWP.ret (Fin trivial [] [])
 | false =>
   rw [show tkA b = noA from if_neg (by rw [hr]; simp), show tkAe b = 3 from if_neg (by rw [hr]; simp), noA_T]
   rw [hr] at h1
   generalize (readA b).1 = q at *
   have hn := q.name.2
   rw [aT_st, wT_st] at h1
   repeat refine St (And.intro h1 <| hn) ct16 ?_
   exact AWP.ret (Fin trivial [] [])
theorem taa_c {b : List UInt8} (h : b.length ≤ 549755000000) : F16 [.by b] = some ([], .tup [.t (aT (tkA b)), .t (.int .i64 (tkAe b))]) := if_pos h
end Go.Fw

end

section
namespace Go.Fw
open Go Go.Proofs
theorem putA_no {a : TA} (h : mayA a = false) : putA a = [] ∧ putAe a = 1 := ⟨if_neg (by rw [h]; simp), if_neg (by rw [h]; simp)⟩
theorem putA_yes {a : TA} (h : mayA a = true) : putA a = bytA a ∧ putAe a = 0 := ⟨if_pos h, if_pos h⟩
theorem mayA_e {a : TA} (h : ¬ (0 ≤ a.e ∧ a.e ≤ 99)) : mayA a = false := by
 cases hm : mayA a with
 | false => rfl
 | true => exact (h (mayA_ok hm).2.1).elim
theorem bodyAK_len (a : TA) (h1 : a.bts.length ≤ 1000000) (h2 : a.ents.length ≤ 1000) (h3 : a.nams.length ≤ 1000) : ∀ k, k ≤ 8 → (bodyAK k a).length ≤ 2000000 := by
 have hn := a.name.2
 have hw := (wB a.work).2
 have hs := sizeB_len (a.bts.length : Int)
 have hs2 := sizeB_len (a.ents.length : Int)
 have hs3 := sizeB_len (a.nams.length : Int)
 have e1 := cat_len entB 88 a.ents fun x _ => by rw [entB_len]; exact Nat.le_refl _
 have e2 := cat_len n4B 4 a.nums.1 fun x _ => by simp [n4B, le_len]
 have e3 := cat_len hB 32 a.nams fun x _ => by show x.1.length ≤ 32; exact Nat.le_of_eq x.2
 have e4 := a.nums.2
 exact k8_all (by simp [bodyAK]) (by simp [bodyAK, hn, n4B, le_len, hw]) (by simp [bodyAK, btsB]; omega) (by simp [bodyAK, le_len, n4B, flagB, btsB]; omega) (by simp [bodyAK, le_len, btsB]; omega) (by simp [bodyAK]; omega) (by simp [bodyAK]; omega) (by simp [bodyAK, hn]) (by simp [bodyAK]; omega)
end Go.Fw

end

section
namespace Go.Fw
open Go Go.Proofs
def smallA (a : TA) : Bool := decide (a.bts.length ≤ 600) && decide (a.ents.length ≤ 220) && decide (a.nams.length ≤ 120)
noncomputable def F20 : Fun
 | [y] => match inv aT y with
   | some a => some ([], .t (.bool (smallA a)))
   | none => none
 | _ => none
theorem ct20 : CT [] [0, 1, 2] [] := ⟨GClOk.nil _⟩
set_option maxHeartbeats 1000000 in
theorem c20 : ACon Try.prog 20 F20 := by
 refine aconc E_ok (rs := [.tmp 2 4]) Try.func20 rfl Try.ntmps20 (by kernel_rfl) rfl (by decide) F20 (np := 1) ?_ ?_
 · intro ts h; unfold F20; split <;> first | rfl | (simp at h; done)
 intro ts H r hF hwf
 unfold F20 at hF
 split at hF <;> try (cases hF; done)
 split at hF <;> try (cases hF; done)
 rename_i a ha
 cases hF
 obtain rfl := inv_inv ha
 have hn := a.name.2
 have mE : (a.ents.map eT).length = a.ents.length := List.length_map ..
 have mN : (a.nams.map hT).length = a.nams.length := List.length_map ..
 unfold smallA
 rw [aT_st, wT_st]
 by_cases h1 : (a.bts.length : Int) ≤ 600
 case neg =>
   rw [decide_eq_false (show ¬ a.bts.length ≤ 600 by omega)]
   repeat refine St (And.intro h1 <| hn) ct20 ?_
   exact AWP.ret (Fin @Bool.false_and [] [])
 rw [decide_eq_true (show a.bts.length ≤ 600 by omega)]
 by_cases h2 : (a.ents.length : Int) ≤ 220
 case neg =>
   rw [decide_eq_false (show ¬ a.ents.length ≤ 220 by omega)]
   repeat refine St (And.intro h1 <| And.intro h2 <| And.intro hn <| mE) ct20 ?_
   exact AWP.ret (Fin (And.intro @Bool.false_and <| @Bool.and_false) [] [])
 rw [decide_eq_true (show a.ents.length ≤ 220 by omega)]
 by_cases h3 : (a.nams.length : Int) ≤ 120
 case neg =>
   rw [decide_eq_false (show ¬ a.nams.length ≤ 120 by omega)]
   repeat refine St (And.intro h1 <| And.intro h2 <| And.intro h3 <| And.intro hn <| And.intro mE <| mN) ct20 ?_
   exact AWP.ret (Fin @Bool.and_false [] [])
 rw [decide_eq_true (show a.nams.length ≤ 120 by omega)]
 repeat refine St (And.intro h1 <| And.intro h2 <| And.intro h3 <| And.intro hn <| And.intro mE <| mN) ct20 ?_
 exact AWP.ret (Fin @Bool.and_true [] [])
theorem sma_c (a : TA) : F20 [aT a] = some ([], .t (.bool (smallA a))) := by simp only [F20, inv_of aT_inj]
theorem smallA_ok {a : TA} (h : smallA a = true) : a.bts.length ≤ 600 ∧ a.ents.length ≤ 220 ∧ a.nams.length ≤ 120 := by
 simpa [smallA, and_assoc] using h
noncomputable def F19 : Fun
 | [y] => match inv aT y with
   | some a => if a.ents.length ≤ 1000000 then some ([], .t (aT a)) else none
   | none => none
 | _ => none
theorem ct19 : CT [] [0, 1, 2, 3, 4, 5, 31] [] := ⟨GClOk.nil _⟩
set_option maxRecDepth 20000 in
set_option maxHeartbeats 4000000 in
theorem c19 : ACon Try.prog 19 F19 := by
 refine aconc E_ok (rs := [.cell 2 52]) Try.func19 rfl Try.ntmps19 (by kernel_rfl) rfl (by decide) F19 (np := 1) ?_ ?_
 · intro ts h; unfold F19; split <;> first | rfl | (simp at h; done)
 intro ts H r hF hwf
 unfold F19 at hF
 split at hF <;> try (cases hF; done)
 split at hF <;> try (cases hF; done)
 rename_i a ha
 split at hF
 case isFalse => cases hF
 rename_i hl
 cases hF
 obtain rfl := inv_inv ha
 have hn := a.name.2
 have mE : (a.ents.map eT).length = a.ents.length := List.length_map ..
 rw [aT_st, wT_st]
 repeat refine St hn ct19 ?_
 refine AWP.loop (G := { i : Nat // i ≤ a.ents.length }) (fun i => match i.1 with
     | 0 => ⟨[(1, .ptr 0 0 []), (2, .ptr 1 0 []), (3, .ptr 2 0 []), (4, .t (.int .i64 0))], [.bx (.t (.st [.int .u8 (a.op.toNat : Int), .int .i64 a.e, .ba 32 a.name.1, .int .u32 (a.hgt.toNat : Int), .ar 4 1 [.int .u64 (a.work.a.toNat : Int), .int .u64 (a.work.b.toNat : Int), .int .u64 (a.work.c.toNat : Int), .int .u64 (a.work.d.toNat : Int)], .int .u64 (a.val.toNat : Int), .bool a.fst, .by a.bts, .sq 69 (a.ents.map eT), .ar 5 1 (a.nums.1.map nT), .sq 32 (a.nams.map hT)])), .bx (.t (.st [.int .u8 0, .int .i64 0, .ba 32 (zby 32), .int .u32 0, .ar 4 1 [.int .u64 0, .int .u64 0, .int .u64 0, .int .u64 0], .int .u64 0, .bool false, .nil, .nil, .ar 5 1 [.int .u32 0, .int .u32 0, .int .u32 0, .int .u32 0, .int .u32 0], .nil])), .bx (.t (.st [.int .u8 (a.op.toNat : Int), .int .i64 a.e, .ba 32 a.name.1, .int .u32 (a.hgt.toNat : Int), .ar 4 1 [.int .u64 (a.work.a.toNat : Int), .int .u64 (a.work.b.toNat : Int), .int .u64 (a.work.c.toNat : Int), .int .u64 (a.work.d.toNat : Int)], .int .u64 (a.val.toNat : Int), .bool a.fst, .by a.bts, .nil, .ar 5 1 (a.nums.1.map nT), .sq 32 (a.nams.map hT)]))]⟩
     | i + 1 => ⟨[(1, .ptr 0 0 []), (2, .ptr 1 0 []), (3, .ptr 2 0 []), (4, .t (.int .i64 ((i + 1 : Nat) : Int)))], [.bx (.t (.st [.int .u8 (a.op.toNat : Int), .int .i64 a.e, .ba 32 a.name.1, .int .u32 (a.hgt.toNat : Int), .ar 4 1 [.int .u64 (a.work.a.toNat : Int), .int .u64 (a.work.b.toNat : Int), .int .u64 (a.work.c.toNat : Int), .int .u64 (a.work.d.toNat : Int)], .int .u64 (a.val.toNat : Int), .bool a.fst, .by a.bts, .sq 69 (a.ents.map eT), .ar 5 1 (a.nums.1.map nT), .sq 32 (a.nams.map hT)])), .bx (.t (.st [.int .u8 0, .int .i64 0, .ba 32 (zby 32), .int .u32 0, .ar 4 1 [.int .u64 0, .int .u64 0, .int .u64 0, .int .u64 0], .int .u64 0, .bool false, .nil, .nil, .ar 5 1 [.int .u32 0, .int .u32 0, .int .u32 0, .int .u32 0, .int .u32 0], .nil])), .bx (.st [.t (.int .u8 (a.op.toNat : Int)), .t (.int .i64 a.e), .t (.ba 32 a.name.1), .t (.int .u32 (a.hgt.toNat : Int)), .t (.ar 4 1 [.int .u64 (a.work.a.toNat : Int), .int .u64 (a.work.b.toNat : Int), .int .u64 (a.work.c.toNat : Int), .int .u64 (a.work.d.toNat : Int)]), .t (.int .u64 (a.val.toNat : Int)), .t (.bool a.fst), .t (.by a.bts), .own 3, .t (.ar 5 1 (a.nums.1.map nT)), .t (.sq 32 (a.nams.map hT))]), .sq 69 ((a.ents.take (i + 1)).map eT)]⟩) (fun i => a.ents.length - i.1) ⟨0, Nat.zero_le _⟩ (Wt trivial [1, 2, 3, 4] [0, 1, 2]) ?_
 rintro ⟨i, hi⟩
 dsimp only
 have hst : ∀ i, i < a.ents.length → (a.ents.take i).map eT ++ [eT (a.ents.getD i dE)] = (a.ents.take (i + 1)).map eT := fun i h => by rw [take_getDx dE _ _ h, List.map_append]; rfl
 have hget : ∀ i, i < a.ents.length → (a.ents.map eT).getD i default = eT (a.ents.getD i dE) := fun i h => entE_getD _ i h
 have hsz : ∀ e : TE, (eT e).size = 69 := fun e => rfl
 cases i with
 | zero =>
   dsimp only
   by_cases h0 : 0 < a.ents.length
   · have h0' : (0 : Int) < (a.ents.length : Int) := by omega
     have g := hget 0 h0
     have s1 := hst 0 h0
     rw [List.take_zero, List.map_nil, List.nil_append] at s1
     have hs1 := (a.ents.getD 0 dE).tx.2
     have hs2 := (a.ents.getD 0 dE).tpl.2
     generalize a.ents.getD 0 dE = x at *
     rw [eT_st] at g s1
     repeat refine St (And.intro h0 <| And.intro h0' <| And.intro mE <| And.intro g <| And.intro hs1 <| And.intro hs2 <| hn) ct19 ?_
     exact ⟨⟨1, by omega⟩, (Wt s1 [1, 2, 3, 4] [0, 1, 2, 5]), by simp only; omega⟩
   · have h0' : ¬ (0 : Int) < (a.ents.length : Int) := by omega
     have he : a.ents = [] := List.length_eq_zero_iff.1 (by omega)
     repeat refine St (And.intro h0' <| And.intro mE <| hn) ct19 ?_
     exact AWP.ret (Fin (And.intro he <| @List.map_nil.{0, 0}) [] [])
 | succ i =>
   dsimp only
   have hw : IntKind.i64.wrap (((i + 1 : Nat) : Int) + 1) = ((i + 1 + 1 : Nat) : Int) := by rw [wrap_i64 (by omega) (by omega)]; omega
   have ml : ((a.ents.take (i + 1)).map eT).length = i + 1 := by rw [List.length_map, List.length_take]; omega
   by_cases h0 : i + 1 < a.ents.length
   · have h0' : ((i + 1 : Nat) : Int) < (a.ents.length : Int) := by omega
     have g := hget (i + 1) h0
     have s1 := hst (i + 1) h0
     have hs1 := (a.ents.getD (i + 1) dE).tx.2
     have hs2 := (a.ents.getD (i + 1) dE).tpl.2
     generalize a.ents.getD (i + 1) dE = x at *
     rw [eT_st] at g s1
     repeat refine St (And.intro h0 <| And.intro h0' <| And.intro mE <| And.intro g <| And.intro hs1 <| And.intro hs2 <| And.intro hn <| And.intro hw <| ml) ct19 ?_
     exact ⟨⟨i + 1 + 1, by omega⟩, (Wt s1 [1, 2, 3, 4] [0, 1, 2, 6]), by simp only; omega⟩
   · have h0' : ¬ ((i + 1 : Nat) : Int) < (a.ents.length : Int) := by omega
     have he : a.ents.take (i + 1) = a.ents := List.take_of_length_le (by omega)
     repeat refine St (And.intro h0' <| And.intro mE <| hn) ct19 ?_
     exact AWP.ret (Fin he [3] [])
theorem anst_c {a : TA} (h : a.ents.length ≤ 1000000) : F19 [aT a] = some ([], .t (aT a)) := by simp only [F19, inv_of aT_inj]; exact if_pos h
end Go.Fw

end

section
namespace Go.Fw
open Go Go.Proofs
noncomputable def F18 : Fun
 | [x, y] => match inv aT x, inv aT y with
   | some a, some b => some ([], .t (.bool (decide (a = b))))
   | _, _ => none
 | _ => none
theorem ct18 : CT [] [0, 1, 2, 3, 4, 5, 6, 87, 92, 105, 110, 123] [(6, [⟨0, [2], [], []⟩, ⟨1, [95], [], []⟩, ⟨0, [5], [], []⟩, ⟨1, [96, 97], [1], []⟩, ⟨1, [98], [1, 3], []⟩, ⟨0, [3], [], []⟩, ⟨1, [100], [], []⟩, ⟨0, [5], [], []⟩, ⟨1, [101, 102], [6], []⟩, ⟨1, [103], [6, 8], []⟩, ⟨0, [99, 104], [1, 3, 4, 6, 8, 9], []⟩]), (11, [⟨0, [2], [], []⟩, ⟨1, [113], [], []⟩, ⟨0, [6], [], []⟩, ⟨1, [114, 115], [1], []⟩, ⟨1, [116], [1, 3], []⟩, ⟨0, [3], [], []⟩, ⟨1, [118], [], []⟩, ⟨0, [6], [], []⟩, ⟨1, [119, 120], [6], []⟩, ⟨1, [121], [6, 8], []⟩, ⟨0, [117, 122], [1, 3, 4, 6, 8, 9], []⟩])] := ⟨GClOk.nil _⟩
theorem bne_t {α : Type} [BEq α] {a b : α} (h : (a == b) = false) : (a != b) = true := by unfold bne; rw [h]; rfl
theorem bne_f {α : Type} [BEq α] {a b : α} (h : (a == b) = true) : (a != b) = false := by unfold bne; rw [h]; rfl
set_option maxRecDepth 20000 in
set_option maxHeartbeats 8000000 in
theorem c18 : ACon Try.prog 18 F18 := by
 refine aconc E_ok (rs := [.tmp 4 4]) Try.func18 rfl Try.ntmps18 (by kernel_rfl) rfl (by decide) F18 (np := 2) ?_ ?_
 · intro ts h; unfold F18; split <;> first | rfl | (simp at h; done)
 intro ts H r hF hwf
 unfold F18 at hF
 split at hF <;> try (cases hF; done)
 split at hF <;> try (cases hF; done)
 rename_i a b ha hb
 cases hF
 have hwl := hwf _ (List.mem_cons_self ..)
 obtain rfl := inv_inv ha
 obtain rfl := inv_inv hb
 clear ha hb hwf
 obtain ⟨o, e, n, g, w, v, f, x, E, u, N⟩ := a
 obtain ⟨o', e', n', g', w', v', f', x', E', u', N'⟩ := b
 have hlE : E.length ≤ 9223372036854775807 ∧ N.length ≤ 9223372036854775807 := by
   rw [aT_st] at hwl
   simp only [T.wf, T.wfL, List.length_map] at hwl
   have e1 : maxLen = 9223372036854775807 := rfl
   omega
 obtain ⟨hlE, hlN⟩ := hlE
 clear hwl
 rw [aT_st, aT_st]
 dsimp only
 have hn1 := n.2
 have hn2 := n'.2
 obtain ⟨u0, u1, u2, u3, u4, hu⟩ := n5_ex u
 obtain ⟨y0, y1, y2, y3, y4, hu'⟩ := n5_ex u'
 subst hu
 subst hu'
 simp only [wT, List.map_cons, List.map_nil, nT]
 have b1 := n8_beq o o'
 have b2 := int_beq e e'
 have b3 := h32_beq n n'
 have b4 := n32_beq g g'
 have b5 := w4_beq w w'
 have b6 := n64_beq v v'
 have b7 := bool_beq f f'
 have b8 := n5_beq u0 u1 u2 u3 u4 y0 y1 y2 y3 y4
 have b9 := by_beq x x'
 have b10 := int_beq (E.length : Int) (E'.length : Int)
 have b11 := int_beq (N.length : Int) (N'.length : Int)
 have mE : (E.map eT).length = E.length := List.length_map ..
 have mE' : (E'.map eT).length = E'.length := List.length_map ..
 have mN : (N.map hT).length = N.length := List.length_map ..
 have mN' : (N'.map hT).length = N'.length := List.length_map ..
 generalize hA : (⟨[u0, u1, u2, u3, u4], rfl⟩ : N5) = u at *
 generalize hB : (⟨[y0, y1, y2, y3, y4], rfl⟩ : N5) = u' at *
 clear hA hB
 by_cases k0 : o = o'
 case neg =>
   rw [decide_eq_false k0] at b1
   have hd : decide ((⟨o, e, n, g, w, v, f, x, E, u, N⟩ : TA) = ⟨o', e', n', g', w', v', f', x', E', u', N'⟩) = false := decide_eq_false (fun hh => k0 (TA.mk.inj hh).1)
   rw [hd]
   have m0 := bne_t b1
   repeat refine St (And.intro @lapp1 <| And.intro @lapp2 <| And.intro hn1 <| And.intro hn2 <| And.intro mE <| And.intro mE' <| And.intro mN <| And.intro mN' <| And.intro b1 <| m0) ct18 ?_
   exact AWP.ret (Fin trivial [] [])
 rw [decide_eq_true k0] at b1
 have m0 := bne_f b1
 by_cases k1 : e = e'
 case neg =>
   rw [decide_eq_false k1] at b2
   have hd : decide ((⟨o, e, n, g, w, v, f, x, E, u, N⟩ : TA) = ⟨o', e', n', g', w', v', f', x', E', u', N'⟩) = false := decide_eq_false (fun hh => k1 (TA.mk.inj hh).2.1)
   rw [hd]
   have m1 := bne_t b2
   repeat refine St (And.intro @lapp1 <| And.intro @lapp2 <| And.intro hn1 <| And.intro hn2 <| And.intro mE <| And.intro mE' <| And.intro mN <| And.intro mN' <| And.intro b1 <| And.intro m0 <| And.intro b2 <| m1) ct18 ?_
   exact AWP.ret (Fin trivial [] [])
 rw [decide_eq_true k1] at b2
 have m1 := bne_f b2
 by_cases k2 : n = n'
 case neg =>
   rw [decide_eq_false k2] at b3
   have hd : decide ((⟨o, e, n, g, w, v, f, x, E, u, N⟩ : TA) = ⟨o', e', n', g', w', v', f', x', E', u', N'⟩) = false := decide_eq_false (fun hh => k2 (TA.mk.inj hh).2.2.1)
   rw [hd]
   repeat refine St (And.intro @lapp1 <| And.intro @lapp2 <| And.intro hn1 <| And.intro hn2 <| And.intro mE <| And.intro mE' <| And.intro mN <| And.intro mN' <| And.intro b1 <| And.intro m0 <| And.intro b2 <| And.intro m1 <| b3) ct18 ?_
   exact AWP.ret (Fin trivial [] [])
 rw [decide_eq_true k2] at b3
 by_cases k3 : g = g'
 case neg =>
   rw [decide_eq_false k3] at b4
   have hd : decide ((⟨o, e, n, g, w, v, f, x, E, u, N⟩ : TA) = ⟨o', e', n', g', w', v', f', x', E', u', N'⟩) = false := decide_eq_false (fun hh => k3 (TA.mk.inj hh).2.2.2.1)
   rw [hd]
   have m3 := bne_t b4
   repeat refine St (And.intro @lapp1 <| And.intro @lapp2 <| And.intro hn1 <| And.intro hn2 <| And.intro mE <| And.intro mE' <| And.intro mN <| And.intro mN' <| And.intro b1 <| And.intro m0 <| And.intro b2 <| And.intro m1 <| And.intro b3 <| And.intro b4 <| m3) ct18 ?_
   exact AWP.ret (Fin trivial [] [])
 rw [decide_eq_true k3] at b4
 have m3 := bne_f b4
 by_cases k4 : w = w'
 case neg =>
   rw [decide_eq_false k4] at b5
   have hd : decide ((⟨o, e, n, g, w, v, f, x, E, u, N⟩ : TA) = ⟨o', e', n', g', w', v', f', x', E', u', N'⟩) = false := decide_eq_false (fun hh => k4 (TA.mk.inj hh).2.2.2.2.1)
   rw [hd]
   repeat refine St (And.intro @lapp1 <| And.intro @lapp2 <| And.intro hn1 <| And.intro hn2 <| And.intro mE <| And.intro mE' <| And.intro mN <| And.intro mN' <| And.intro b1 <| And.intro m0 <| And.intro b2 <| And.intro m1 <| And.intro b3 <| And.intro b4 <| And.intro m3 <| b5) ct18 ?_
   exact AWP.ret (Fin trivial [] [])
 rw [decide_eq_true k4] at b5
 by_cases k5 : v = v'
 case neg =>
   rw [decide_eq_false k5] at b6
   have hd : decide ((⟨o, e, n, g, w, v, f, x, E, u, N⟩ : TA) = ⟨o', e', n', g', w', v', f', x', E', u', N'⟩) = false := decide_eq_false (fun hh => k5 (TA.mk.inj hh).2.2.2.2.2.1)
   rw [hd]
   have m5 := bne_t b6
   repeat refine St (And.intro @lapp1 <| And.intro @lapp2 <| And.intro hn1 <| And.intro hn2 <| And.intro mE <| And.intro mE' <| And.intro mN <| And.intro mN' <| And.intro b1 <| And.intro m0 <| And.intro b2 <| And.intro m1 <| And.intro b3 <| And.intro b4 <| And.intro m3 <| And.intro b5 <| And.intro b6 <| m5) ct18 ?_
   exact AWP.ret (Fin trivial [] [])
 rw [decide_eq_true k5] at b6
 have m5 := bne_f b6
 by_cases k6 : f = f'
 case neg =>
   rw [decide_eq_false k6] at b7
   have hd : decide ((⟨o, e, n, g, w, v, f, x, E, u, N⟩ : TA) = ⟨o', e', n', g', w', v', f', x', E', u', N'⟩) = false := decide_eq_false (fun hh => k6 (TA.mk.inj hh).2.2.2.2.2.2.1)
   rw [hd]
   have m6 := bne_t b7
   repeat refine St (And.intro @lapp1 <| And.intro @lapp2 <| And.intro hn1 <| And.intro hn2 <| And.intro mE <| And.intro mE' <| And.intro mN <| And.intro mN' <| And.intro b1 <| And.intro m0 <| And.intro b2 <| And.intro m1 <| And.intro b3 <| And.intro b4 <| And.intro m3 <| And.intro b5 <| And.intro b6 <| And.intro m5 <| And.intro b7 <| m6) ct18 ?_
   exact AWP.ret (Fin trivial [] [])
 rw [decide_eq_true k6] at b7
 have m6 := bne_f b7
 by_cases k7 : x = x'
 case neg =>
   rw [decide_eq_false k7] at b9
   have hd : decide ((⟨o, e, n, g, w, v, f, x, E, u, N⟩ : TA) = ⟨o', e', n', g', w', v', f', x', E', u', N'⟩) = false := decide_eq_false (fun hh => k7 (TA.mk.inj hh).2.2.2.2.2.2.2.1)
   rw [hd]
   have m7 := bne_t b9
   repeat refine St (And.intro @lapp1 <| And.intro @lapp2 <| And.intro hn1 <| And.intro hn2 <| And.intro mE <| And.intro mE' <| And.intro mN <| And.intro mN' <| And.intro b1 <| And.intro m0 <| And.intro b2 <| And.intro m1 <| And.intro b3 <| And.intro b4 <| And.intro m3 <| And.intro b5 <| And.intro b6 <| And.intro m5 <| And.intro b7 <| And.intro m6 <| And.intro b9 <| m7) ct18 ?_
   exact AWP.ret (Fin trivial [] [])
 rw [decide_eq_true k7] at b9
 have m7 := bne_f b9
 by_cases k8 : u = u'
 case neg =>
   rw [decide_eq_false k8] at b8
   have hd : decide ((⟨o, e, n, g, w, v, f, x, E, u, N⟩ : TA) = ⟨o', e', n', g', w', v', f', x', E', u', N'⟩) = false := decide_eq_false (fun hh => k8 (TA.mk.inj hh).2.2.2.2.2.2.2.2.2.1)
   rw [hd]
   repeat refine St (And.intro @lapp1 <| And.intro @lapp2 <| And.intro hn1 <| And.intro hn2 <| And.intro mE <| And.intro mE' <| And.intro mN <| And.intro mN' <| And.intro b1 <| And.intro m0 <| And.intro b2 <| And.intro m1 <| And.intro b3 <| And.intro b4 <| And.intro m3 <| And.intro b5 <| And.intro b6 <| And.intro m5 <| And.intro b7 <| And.intro m6 <| And.intro b9 <| And.intro m7 <| b8) ct18 ?_
   exact AWP.ret (Fin trivial [] [])
 rw [decide_eq_true k8] at b8
 by_cases k9 : (E.length : Int) = (E'.length : Int)
 case neg =>
   rw [decide_eq_false k9] at b10
   have hd : decide ((⟨o, e, n, g, w, v, f, x, E, u, N⟩ : TA) = ⟨o', e', n', g', w', v', f', x', E', u', N'⟩) = false := decide_eq_false (fun hh => k9 (by rw [(TA.mk.inj hh).2.2.2.2.2.2.2.2.1]))
   rw [hd]
   have m9 := bne_t b10
   repeat refine St (And.intro @lapp1 <| And.intro @lapp2 <| And.intro hn1 <| And.intro hn2 <| And.intro mE <| And.intro mE' <| And.intro mN <| And.intro mN' <| And.intro b1 <| And.intro m0 <| And.intro b2 <| And.intro m1 <| And.intro b3 <| And.intro b4 <| And.intro m3 <| And.intro b5 <| And.intro b6 <| And.intro m5 <| And.intro b7 <| And.intro m6 <| And.intro b9 <| And.intro m7 <| And.intro b8 <| And.intro b10 <| m9) ct18 ?_
   exact AWP.ret (Fin trivial [] [])
 rw [decide_eq_true k9] at b10
 have m9 := bne_f b10
 by_cases k10 : (N.length : Int) = (N'.length : Int)
 case neg =>
   rw [decide_eq_false k10] at b11
   have hd : decide ((⟨o, e, n, g, w, v, f, x, E, u, N⟩ : TA) = ⟨o', e', n', g', w', v', f', x', E', u', N'⟩) = false := decide_eq_false (fun hh => k10 (by rw [(TA.mk.inj hh).2.2.2.2.2.2.2.2.2.2]))
   rw [hd]
   have m10 := bne_t b11
   repeat refine St (And.intro @lapp1 <| And.intro @lapp2 <| And.intro hn1 <| And.intro hn2 <| And.intro mE <| And.intro mE' <| And.intro mN <| And.intro mN' <| And.intro b1 <| And.intro m0 <| And.intro b2 <| And.intro m1 <| And.intro b3 <| And.intro b4 <| And.intro m3 <| And.intro b5 <| And.intro b6 <| And.intro m5 <| And.intro b7 <| And.intro m6 <| And.intro b9 <| And.intro m7 <| And.intro b8 <| And.intro b10 <| And.intro m9 <| And.intro b11 <| m10) ct18 ?_
   exact AWP.ret (Fin trivial [] [])
 rw [decide_eq_true k10] at b11
 have m10 := bne_f b11
 repeat refine St (And.intro @lapp1 <| And.intro @lapp2 <| And.intro hn1 <| And.intro hn2 <| And.intro mE <| And.intro mE' <| And.intro mN <| And.intro mN' <| And.intro b1 <| And.intro m0 <| And.intro b2 <| And.intro m1 <| And.intro b3 <| And.intro b4 <| And.intro m3 <| And.intro b5 <| And.intro b6 <| And.intro m5 <| And.intro b7 <| And.intro m6 <| And.intro b9 <| And.intro m7 <| And.intro b8 <| And.intro b10 <| And.intro m9 <| And.intro b11 <| m10) ct18 ?_
 have kE : E.length = E'.length := by omega
 have kN : N.length = N'.length := by omega
 have hE0 : E.take 0 = E'.take 0 := rfl
 refine AWP.loop (G := { i : Nat // i ≤ E.length ∧ E.take i = E'.take i }) (fun i => ⟨[(2, .ptr 0 0 []), (3, .ptr 1 0 []), (5, .t (.int .i64 (i.1 : Int)))], [.bx (.t (.st [.int .u8 (o.toNat : Int), .int .i64 e, .ba 32 n.1, .int .u32 (g.toNat : Int), .ar 4 1 [.int .u64 (w.a.toNat : Int), .int .u64 (w.b.toNat : Int), .int .u64 (w.c.toNat : Int), .int .u64 (w.d.toNat : Int)], .int .u64 (v.toNat : Int), .bool f, .by x, .sq 69 (E.map eT), .ar 5 1 [.int .u32 (u0.toNat : Int), .int .u32 (u1.toNat : Int), .int .u32 (u2.toNat : Int), .int .u32 (u3.toNat : Int), .int .u32 (u4.toNat : Int)], .sq 32 (N.map hT)])), .bx (.t (.st [.int .u8 (o'.toNat : Int), .int .i64 e', .ba 32 n'.1, .int .u32 (g'.toNat : Int), .ar 4 1 [.int .u64 (w'.a.toNat : Int), .int .u64 (w'.b.toNat : Int), .int .u64 (w'.c.toNat : Int), .int .u64 (w'.d.toNat : Int)], .int .u64 (v'.toNat : Int), .bool f', .by x', .sq 69 (E'.map eT), .ar 5 1 [.int .u32 (y0.toNat : Int), .int .u32 (y1.toNat : Int), .int .u32 (y2.toNat : Int), .int .u32 (y3.toNat : Int), .int .u32 (y4.toNat : Int)], .sq 32 (N'.map hT)]))]⟩) (fun i => E.length - i.1) ⟨0, Nat.zero_le _, hE0⟩ (Wt trivial [2, 3, 5] [0, 1]) ?_
 rintro ⟨i, hi, hti⟩
 dsimp only
 by_cases hlt : i < E.length
 · have hlt2 : (i : Int) < (E.length : Int) := by omega
   have hltm : i < E'.length := by omega
   have g1 := entE_getD E i hlt
   have g2 := entE_getD E' i hltm
   have hw : IntKind.i64.wrap ((i : Int) + 1) = ((i + 1 : Nat) : Int) := by rw [wrap_i64 (by omega) (by omega)]; omega
   obtain ⟨p, hp⟩ : ∃ p, E.getD i dE = p := ⟨_, rfl⟩
   obtain ⟨q, hq⟩ : ∃ q, E'.getD i dE = q := ⟨_, rfl⟩
   rw [hp] at g1
   rw [hq] at g2
   have hcmp := ent_beq p q
   have hs1 := p.tx.2
   have hs2 := p.tpl.2
   have hs3 := q.tx.2
   have hs4 := q.tpl.2
   rw [eT_st] at g1 g2
   by_cases hxy : p = q
   · rw [decide_eq_true hxy] at hcmp
     repeat refine St (And.intro hlt2 <| And.intro hlt <| And.intro hltm <| And.intro mE <| And.intro mE' <| And.intro g1 <| And.intro g2 <| And.intro hcmp <| And.intro hw <| And.intro hs1 <| And.intro hs2 <| And.intro hs3 <| And.intro hs4 <| And.intro hn1 <| hn2) ct18 ?_
     exact ⟨⟨i + 1, by omega, take_eq_succ dE hlt hltm hti (by rw [hp, hq]; exact hxy)⟩, (Wt trivial [2, 3, 5] [0, 1]), by simp only; omega⟩
   · rw [decide_eq_false hxy] at hcmp
     have hd : decide ((⟨o, e, n, g, w, v, f, x, E, u, N⟩ : TA) = ⟨o', e', n', g', w', v', f', x', E', u', N'⟩) = false := decide_eq_false fun hh => hxy (by rw [← hp, ← hq, (TA.mk.inj hh).2.2.2.2.2.2.2.2.1])
     rw [hd]
     repeat refine St (And.intro hlt2 <| And.intro hlt <| And.intro hltm <| And.intro mE <| And.intro mE' <| And.intro g1 <| And.intro g2 <| And.intro hcmp <| And.intro hs1 <| And.intro hs2 <| And.intro hs3 <| And.intro hs4 <| And.intro hn1 <| hn2) ct18 ?_
     exact AWP.ret (Fin trivial [] [])
 have hie : i = E.length := by omega
 have hEE : E = E' := take_eq_all kE (by rw [← hie]; exact hti)
 have hlt2 : ¬ (i : Int) < (E.length : Int) := by omega
 repeat refine St (And.intro hlt2 <| And.intro mE <| And.intro hn1 <| hn2) ct18 ?_
 have hN0 : N.take 0 = N'.take 0 := rfl
 refine AWP.loop (G := { i : Nat // i ≤ N.length ∧ N.take i = N'.take i }) (fun i => ⟨[(2, .ptr 0 0 []), (3, .ptr 1 0 []), (6, .t (.int .i64 (i.1 : Int)))], [.bx (.t (.st [.int .u8 (o.toNat : Int), .int .i64 e, .ba 32 n.1, .int .u32 (g.toNat : Int), .ar 4 1 [.int .u64 (w.a.toNat : Int), .int .u64 (w.b.toNat : Int), .int .u64 (w.c.toNat : Int), .int .u64 (w.d.toNat : Int)], .int .u64 (v.toNat : Int), .bool f, .by x, .sq 69 (E.map eT), .ar 5 1 [.int .u32 (u0.toNat : Int), .int .u32 (u1.toNat : Int), .int .u32 (u2.toNat : Int), .int .u32 (u3.toNat : Int), .int .u32 (u4.toNat : Int)], .sq 32 (N.map hT)])), .bx (.t (.st [.int .u8 (o'.toNat : Int), .int .i64 e', .ba 32 n'.1, .int .u32 (g'.toNat : Int), .ar 4 1 [.int .u64 (w'.a.toNat : Int), .int .u64 (w'.b.toNat : Int), .int .u64 (w'.c.toNat : Int), .int .u64 (w'.d.toNat : Int)], .int .u64 (v'.toNat : Int), .bool f', .by x', .sq 69 (E'.map eT), .ar 5 1 [.int .u32 (y0.toNat : Int), .int .u32 (y1.toNat : Int), .int .u32 (y2.toNat : Int), .int .u32 (y3.toNat : Int), .int .u32 (y4.toNat : Int)], .sq 32 (N'.map hT)]))]⟩) (fun i => N.length - i.1) ⟨0, Nat.zero_le _, hN0⟩ (Wt trivial [2, 3, 6] [0, 1]) ?_
 rintro ⟨i, hi, hti⟩
 dsimp only
 by_cases hlt : i < N.length
 · have hlt2 : (i : Int) < (N.length : Int) := by omega
   have hltm : i < N'.length := by omega
   have g1 := namE_getD N i hlt
   have g2 := namE_getD N' i hltm
   have hw : IntKind.i64.wrap ((i : Int) + 1) = ((i + 1 : Nat) : Int) := by rw [wrap_i64 (by omega) (by omega)]; omega
   obtain ⟨p, hp⟩ : ∃ p, N.getD i zH = p := ⟨_, rfl⟩
   obtain ⟨q, hq⟩ : ∃ q, N'.getD i zH = q := ⟨_, rfl⟩
   rw [hp] at g1
   rw [hq] at g2
   have hcmp := h32_beq p q
   have hs1 := p.2
   have hs2 := q.2
   rw [show ∀ h : H32, hT h = .ba 32 h.1 from fun _ => rfl] at g1 g2
   by_cases hxy : p = q
   · rw [decide_eq_true hxy] at hcmp
     repeat refine St (And.intro hlt2 <| And.intro hlt <| And.intro hltm <| And.intro mN <| And.intro mN' <| And.intro g1 <| And.intro g2 <| And.intro hcmp <| And.intro hw <| And.intro hs1 <| And.intro hs2 <| And.intro hn1 <| hn2) ct18 ?_
     exact ⟨⟨i + 1, by omega, take_eq_succ zH hlt hltm hti (by rw [hp, hq]; exact hxy)⟩, (Wt trivial [2, 3, 6] [0, 1]), by simp only; omega⟩
   · rw [decide_eq_false hxy] at hcmp
     have hd : decide ((⟨o, e, n, g, w, v, f, x, E, u, N⟩ : TA) = ⟨o', e', n', g', w', v', f', x', E', u', N'⟩) = false := decide_eq_false fun hh => hxy (by rw [← hp, ← hq, (TA.mk.inj hh).2.2.2.2.2.2.2.2.2.2])
     rw [hd]
     repeat refine St (And.intro hlt2 <| And.intro hlt <| And.intro hltm <| And.intro mN <| And.intro mN' <| And.intro g1 <| And.intro g2 <| And.intro hcmp <| And.intro hs1 <| And.intro hs2 <| And.intro hn1 <| hn2) ct18 ?_
     exact AWP.ret (Fin trivial [] [])
 have hie : i = N.length := by omega
 have hNN : N = N' := take_eq_all kN (by rw [← hie]; exact hti)
 have hlt2 : ¬ (i : Int) < (N.length : Int) := by omega
 have hd : decide ((⟨o, e, n, g, w, v, f, x, E, u, N⟩ : TA) = ⟨o', e', n', g', w', v', f', x', E', u', N'⟩) = true := decide_eq_true (by rw [k0, k1, k2, k3, k4, k5, k6, k7, k8, hEE, hNN])
 rw [hd]
 repeat refine St (And.intro hlt2 <| And.intro mN <| And.intro hn1 <| hn2) ct18 ?_
 exact AWP.ret (Fin trivial [] [])
theorem rsamea_c (a b : TA) : F18 [aT a, aT b] = some ([], .t (.bool (decide (a = b)))) := by
 simp only [F18, inv_of aT_inj]
end Go.Fw

end

section
namespace Go.Fw
open Go Go.Proofs
def F28 : Fun
 | [.by b, .int .u64 n, .int .i64 m] => if b.length ≤ 549755813000 ∧ 0 ≤ m ∧ m ≤ 16 then some ([.by (b ++ le m.toNat n)], .own 0) else none
 | _ => none
theorem ct28 : CT [] [0, 1, 2, 6, 7, 8, 14] [] := ⟨GClOk.nil _⟩
theorem c28 : ACon Try.prog 28 F28 := by
 refine aconc E_ok (rs := [.tmp 6 24]) Try.func28 rfl Try.ntmps28 (by kernel_rfl) rfl (by decide) F28 (np := 3) ?_ ?_
 · intro ts h; unfold F28; split <;> first | rfl | (simp at h; done)
 intro ts H r hF hwf
 unfold F28 at hF
 split at hF <;> try (cases hF; done)
 rename_i b n m
 split at hF
 case isFalse => cases hF
 rename_i hc
 obtain ⟨hb, h0, h1⟩ := hc
 cases hF
 have hn := inK_u64 (hwf (.int .u64 n) (by simp))
 repeat refine St trivial ct28 ?_
 refine AWP.loop (G := { k : Nat // k ≤ m.toNat }) (fun k => ⟨[(1, .t (.int .u64 (shrB k.1 n))), (2, .t (.int .i64 m)), (7, .own 0), (8, .t (.int .i64 (k.1 : Int)))], [.by (b ++ le k.1 n)]⟩)
   (fun k => m.toNat - k.1) ⟨0, by omega⟩ (Wt (And.intro (And.intro @shrB.eq_1 <| @shrB.eq_2) <| (And.intro @le.eq_1 <| @le.eq_2)) [1, 2, 7, 8] [1]) ?_
 intro ⟨k, hk⟩
 dsimp only
 by_cases hlt : (k : Int) < m
 · have hl : (b ++ le k n).length ≤ 549755813100 := by simp [le_len]; omega
   have hr := shrB_range k n hn.1 hn.2
   have hq : IntKind.u64.wrap ((shrB k n).tdiv 256) = (shrB k n).fdiv 256 := by
     rw [tdiv_256 hr.1]
     have := shrB_range (k + 1) n hn.1 hn.2
     exact wrap_u64 this.1 this.2
   repeat refine St (And.intro hq <| @le_len) ct28 ?_
   exact ⟨⟨k + 1, by omega⟩, (Wt (And.intro (And.intro @shrB.eq_1 <| @shrB.eq_2) <| And.intro (And.intro @le.eq_1 <| @le.eq_2) <| @List.append_assoc.{0}) [1, 2, 7, 8] [2]), by simp only; omega⟩
 · obtain rfl : k = m.toNat := by omega
   repeat refine St trivial ct28 ?_
   exact AWP.ret (Fin trivial [] [0])
theorem put_c {b : List UInt8} (n : Int) (m : Int) (hb : b.length ≤ 549755813000) (h0 : 0 ≤ m) (h1 : m ≤ 16) : F28 [.by b, .int .u64 n, .int .i64 m] = some ([.by (b ++ le m.toNat n)], .own 0) := if_pos ⟨hb, h0, h1⟩
def F50 : Fun
 | [.by b, .int .u64 n] => if b.length ≤ 549755812000 then some ([.by (b ++ sizeB n)], .own 0) else none
 | _ => none
theorem ct50 : CT [(28, ⟨[false, false, false], treeG F28⟩)] [0, 1, 4, 5, 11, 18] [] := ⟨(.cons c28.g (.nil _))⟩
theorem c50 : ACon Try.prog 50 F50 := by
 refine aconc E_ok (rs := [.tmp 4 24]) Try.func50 rfl Try.ntmps50 (by kernel_rfl) rfl (by decide) F50 (np := 2) ?_ ?_
 · intro ts h; unfold F50; split <;> first | rfl | (simp at h; done)
 intro ts H r hF hwf
 unfold F50 at hF
 split at hF <;> try (cases hF; done)
 rename_i b n
 split at hF
 case isFalse => cases hF
 rename_i hc
 have hb := hc
 cases hF
 have hn := inK_u64 (hwf (.int .u64 n) (by simp))
 have h8 : ∀ c : Int, F28 [.by b, .int .u64 c, .int .i64 1] = some ([.by (b ++ le 1 c)], .own 0) := fun c => put_c c 1 (by omega) (by omega) (by omega)
 have hl : ∀ c : Int, (b ++ le 1 c).length ≤ 549755813000 := fun c => by simp [le_len]; omega
 have h16 : ∀ c d : Int, F28 [.by (b ++ le 1 c), .int .u64 d, .int .i64 2] = some ([.by (b ++ le 1 c ++ le 2 d)], .own 0) := fun c d => put_c d 2 (hl c) (by omega) (by omega)
 have h32 : ∀ c d : Int, F28 [.by (b ++ le 1 c), .int .u64 d, .int .i64 4] = some ([.by (b ++ le 1 c ++ le 4 d)], .own 0) := fun c d => put_c d 4 (hl c) (by omega) (by omega)
 have h64 : ∀ c d : Int, F28 [.by (b ++ le 1 c), .int .u64 d, .int .i64 8] = some ([.by (b ++ le 1 c ++ le 8 d)], .own 0) := fun c d => put_c d 8 (hl c) (by omega) (by omega)
 by_cases h1 : n < 253
 · repeat refine St h8 ct50 ?_
   exact AWP.ret (Fin (And.intro @sizeB.eq_def <| h1) [] [0])
 by_cases h2 : n < 65536
 · repeat refine St (And.intro h8 <| h16) ct50 ?_
   exact AWP.ret (Fin (And.intro @sizeB.eq_def <| And.intro h1 <| And.intro h2 <| @List.append_assoc.{0}) [] [1])
 by_cases h3 : n < 4294967296
 · repeat refine St (And.intro h8 <| h32) ct50 ?_
   exact AWP.ret (Fin (And.intro @sizeB.eq_def <| And.intro h1 <| And.intro h2 <| And.intro h3 <| @List.append_assoc.{0}) [] [1])
 repeat refine St (And.intro h8 <| h64) ct50 ?_
 exact AWP.ret (Fin (And.intro @sizeB.eq_def <| And.intro h1 <| And.intro h2 <| And.intro h3 <| @List.append_assoc.{0}) [] [1])
def F29 : Fun
 | [.by b, .by x] => if b.length + x.length ≤ 549755800000 then some ([.by (b ++ sizeB x.length ++ x)], .own 0) else none
 | _ => none
theorem ct29 : CT [(50, ⟨[false, false], treeG F50⟩)] [0, 1, 4, 5] [] := ⟨(.cons c50.g (.nil _))⟩
theorem c29 : ACon Try.prog 29 F29 := by
 refine aconc E_ok (rs := [.tmp 4 24]) Try.func29 rfl Try.ntmps29 (by kernel_rfl) rfl (by decide) F29 (np := 2) ?_ ?_
 · intro ts h; unfold F29; split <;> first | rfl | (simp at h; done)
 intro ts H r hF hwf
 unfold F29 at hF
 split at hF <;> try (cases hF; done)
 rename_i b x
 split at hF
 case isFalse => cases hF
 rename_i hc
 have hb := hc
 cases hF
 have hs := sizeB_len (x.length : Int)
 have h : F50 [.by b, .int .u64 (x.length : Int)] = some ([.by (b ++ sizeB x.length)], .own 0) := if_pos (by omega)
 have hl : (b ++ sizeB x.length).length ≤ 549755812000 := by simp; omega
 repeat refine St h ct29 ?_
 exact AWP.ret (Fin trivial [] [1])
end Go.Fw

end

section
namespace Go.Fw
open Go Go.Proofs
def F52 : Fun
 | [.by b, .int .i64 n] => if b.length ≤ 549755813000 then some ([], .tup [.t (.by (spA b n)), .t (.by (spB b n)), .t (.int .i64 (spE b n))]) else none
 | _ => none
theorem ct52 : CT [] [0, 1, 4, 5, 6, 7, 8, 10, 14] [] := ⟨GClOk.nil _⟩
theorem c52 : ACon Try.prog 52 F52 := by
 refine aconc E_ok (rs := [.tmp 4 24, .tmp 5 24, .tmp 6 28]) Try.func52 rfl Try.ntmps52 (by kernel_rfl) rfl (by decide) F52 (np := 2) ?_ ?_
 · intro ts h; unfold F52; split <;> first | rfl | (simp at h; done)
 intro ts H r hF hwf
 unfold F52 at hF
 split at hF <;> try (cases hF; done)
 rename_i b n
 split at hF
 case isFalse => cases hF
 rename_i hc
 have hb := hc
 cases hF
 by_cases h1 : n < 0
 · repeat refine St trivial ct52 ?_
   exact AWP.ret (Fin (And.intro @spA.eq_def <| And.intro @spB.eq_def <| And.intro @spE.eq_def <| h1) [] [])
 by_cases h2 : (b.length : Int) < n
 · repeat refine St trivial ct52 ?_
   exact AWP.ret (Fin (And.intro @spA.eq_def <| And.intro @spB.eq_def <| And.intro @spE.eq_def <| And.intro h1 <| h2) [] [])
 repeat refine St trivial ct52 ?_
 exact AWP.ret (Fin (And.intro @spA.eq_def <| And.intro @spB.eq_def <| And.intro @spE.eq_def <| And.intro h1 <| h2) [1, 3] [])
def F51 : Fun
 | [.by b, .int .i64 n] => if b.length ≤ 549755813000 ∧ n ≤ 8 then some ([], .tup [.t (.int .u64 (num (spA b n))), .t (.by (spB b n)), .t (.int .i64 (spE b n))]) else none
 | _ => none
theorem ct51 : CT [(52, ⟨[false, false], treeG F52⟩)] [0, 1, 4, 5, 6, 7, 8, 9, 10, 11, 23] [] := ⟨(.cons c52.g (.nil _))⟩
theorem c51 : ACon Try.prog 51 F51 := by
 refine aconc E_ok (rs := [.tmp 4 40, .tmp 5 24, .tmp 6 28]) Try.func51 rfl Try.ntmps51 (by kernel_rfl) rfl (by decide) F51 (np := 2) ?_ ?_
 · intro ts h; unfold F51; split <;> first | rfl | (simp at h; done)
 intro ts H r hF hwf
 unfold F51 at hF
 split at hF <;> try (cases hF; done)
 rename_i b n
 split at hF
 case isFalse => cases hF
 rename_i hc
 obtain ⟨hb, hn⟩ := hc
 cases hF
 have h8 := spA_le b n 8 hn
 have ht : F52 [.by b, .int .i64 n] = some ([], .tup [.t (.by (spA b n)), .t (.by (spB b n)), .t (.int .i64 (spE b n))]) := if_pos hb
 generalize hx : spA b n = x at *
 repeat refine St ht ct51 ?_
 have hz : num (x.drop x.length) = 0 := by simp [num]
 refine AWP.loop (G := { k : Nat // k ≤ x.length }) (fun k => ⟨[(7, .t (.by x)), (8, .t (.by (spB b n))), (9, .t (.int .i64 (spE b n))), (10, .t (.int .u64 (num (x.drop k.1)))), (11, .t (.int .i64 ((k.1 : Int) - 1)))], []⟩)
   (fun k => k.1) ⟨x.length, by omega⟩ (Wt (And.intro hz <| (And.intro @num.eq_1 <| @num.eq_2)) [7, 8, 9, 10, 11] []) ?_
 intro ⟨k, hk⟩
 dsimp only
 by_cases hlt : 0 ≤ (k : Int) - 1
 · obtain ⟨j, rfl⟩ : ∃ j, k = j + 1 := ⟨k - 1, by omega⟩
   have hj : (((j + 1 : Nat) : Int) - 1) = (j : Int) := by omega
   have hd := num_drop x j (by omega)
   have h88 := num_lt8 (x.drop j) (by simp; omega)
   have hc := (x.getD j 0).toNat_lt
   have hw1 : IntKind.u64.wrap ((num (x.drop (j + 1)) : Int) * 256) = (num (x.drop (j + 1)) : Int) * 256 := wrap_u64 (by omega) (by omega)
   have hw2 : IntKind.u64.wrap ((x.getD j 0).toNat : Int) = ((x.getD j 0).toNat : Int) := wrap_u64 (by omega) (by omega)
   have hw3 : IntKind.u64.wrap ((num (x.drop (j + 1)) : Int) * 256 + ((x.getD j 0).toNat : Int)) = (num (x.drop j) : Int) := by rw [wrap_u64 (by omega) (by omega)]; omega
   have hjx : j < x.length := by omega
   repeat refine St (And.intro hj <| And.intro hw1 <| And.intro hw2 <| And.intro hw3 <| hjx) ct51 ?_
   exact ⟨⟨j, by omega⟩, (Wt trivial [7, 8, 9, 10, 11] []), by simp only; omega⟩
 · obtain rfl : k = 0 := by omega
   repeat refine St trivial ct51 ?_
   exact AWP.ret (Fin (@List.drop_zero.{0}) [] [])
theorem number_c (l : List UInt8) (n : Int) (h0 : l.length ≤ 549755813000) (h : n ≤ 8) : F51 [.by l, .int .i64 n] = some ([], .tup [.t (.int .u64 (num (spA l n))), .t (.by (spB l n)), .t (.int .i64 (spE l n))]) := if_pos ⟨h0, h⟩
def F79 : Fun
 | [.by b] => if b.length ≤ 549755813000 then some ([], .tup [.t (.int .u64 ((sz b).1 : Nat)), .t (.by (sz b).2.1), .t (.int .i64 (sz b).2.2)]) else none
 | _ => none
theorem ct79 : CT [(51, ⟨[false, false], treeG F51⟩)] [0, 2, 3, 4, 5, 6, 7, 8, 9, 21, 26, 28, 42] [] := ⟨(.cons c51.g (.nil _))⟩
set_option maxHeartbeats 2000000 in
theorem c79 : ACon Try.prog 79 F79 := by
 refine aconc E_ok (rs := [.tmp 2 40, .tmp 3 24, .tmp 4 28]) Try.func79 rfl Try.ntmps79 (by kernel_rfl) rfl (by decide) F79 (np := 1) ?_ ?_
 · intro ts h; unfold F79; split <;> first | rfl | (simp at h; done)
 intro ts H r hF hwf
 unfold F79 at hF
 split at hF <;> try (cases hF; done)
 rename_i b
 split at hF
 case isFalse => cases hF
 rename_i hc
 have hb := hc
 cases hF
 have hl := spB_len b 1
 have r1 := number_c b 1 (by omega) (by omega)
 have r2 := number_c (spB b 1) 2 (by omega) (by omega)
 have r4 := number_c (spB b 1) 4 (by omega) (by omega)
 have r8 := number_c (spB b 1) 8 (by omega) (by omega)
 have hsz := sz.eq_1 b
 have hbad := @sp_bad b 1
 have hlt := num_lt1 (spA b 1) (spA_le b 1 1 (by omega))
 have b2 := @sp_bad (spB b 1) 2
 have b4 := @sp_bad (spB b 1) 4
 have b8 := @sp_bad (spB b 1) 8
 generalize sz b = R at *
 generalize spB b 1 = y at *
 by_cases h1 : spE b 1 = 0
 case neg =>
   simp only [h1, ne_eq, not_false_eq_true, if_true] at hsz
   obtain ⟨e1, e2⟩ := hbad h1
   subst e2
   rw [e1] at r1
   have h1' : (spE b 1 != 0) = true := by simpa using h1
   repeat refine St (And.intro r1 <| h1') ct79 ?_
   exact AWP.ret (Fin (And.intro hsz <| (And.intro @num.eq_1 <| @num.eq_2)) [] [])
 simp only [h1, ne_eq, not_true_eq_false, if_false] at hsz
 rw [h1] at r1
 obtain ⟨x, hx⟩ : ∃ x : Nat, num (spA b 1) = x := ⟨_, rfl⟩
 rw [hx] at hsz r1 hlt
 by_cases h253 : x = 253
 case pos =>
   subst h253
   simp only [Nat.reduceEqDiff, if_true, if_false] at hsz
   unfold rdR at hsz
   by_cases k1 : spE y 2 = 0
   case neg =>
     simp only [k1, ne_eq, not_false_eq_true, if_true] at hsz
     obtain ⟨e1, e2⟩ := b2 k1
     rw [e1, e2] at r2
     have k1' : (spE y 2 == 0) = false := by simpa using k1
     repeat refine St (And.intro r1 <| And.intro r2 <| k1') ct79 ?_
     exact AWP.ret (Fin (And.intro hsz <| (And.intro @num.eq_1 <| @num.eq_2)) [] [])
   simp only [k1, ne_eq, not_true_eq_false, if_false] at hsz
   rw [k1] at r2
   split at hsz
   · repeat refine St (And.intro r1 <| r2) ct79 ?_
     exact AWP.ret (Fin hsz [] [])
   · repeat refine St (And.intro r1 <| r2) ct79 ?_
     exact AWP.ret (Fin hsz [] [])
 by_cases h254 : x = 254
 case pos =>
   subst h254
   simp only [Nat.reduceEqDiff, if_true, if_false] at hsz
   unfold rdR at hsz
   by_cases k1 : spE y 4 = 0
   case neg =>
     simp only [k1, ne_eq, not_false_eq_true, if_true] at hsz
     obtain ⟨e1, e2⟩ := b4 k1
     rw [e1, e2] at r4
     have k1' : (spE y 4 == 0) = false := by simpa using k1
     repeat refine St (And.intro r1 <| And.intro r4 <| k1') ct79 ?_
     exact AWP.ret (Fin (And.intro hsz <| (And.intro @num.eq_1 <| @num.eq_2)) [] [])
   simp only [k1, ne_eq, not_true_eq_false, if_false] at hsz
   rw [k1] at r4
   split at hsz
   · repeat refine St (And.intro r1 <| r4) ct79 ?_
     exact AWP.ret (Fin hsz [] [])
   · repeat refine St (And.intro r1 <| r4) ct79 ?_
     exact AWP.ret (Fin hsz [] [])
 by_cases h255 : x = 255
 case pos =>
   subst h255
   simp only [Nat.reduceEqDiff, if_true, if_false] at hsz
   unfold rdR at hsz
   by_cases k1 : spE y 8 = 0
   case neg =>
     simp only [k1, ne_eq, not_false_eq_true, if_true] at hsz
     obtain ⟨e1, e2⟩ := b8 k1
     rw [e1, e2] at r8
     have k1' : (spE y 8 == 0) = false := by simpa using k1
     repeat refine St (And.intro r1 <| And.intro r8 <| k1') ct79 ?_
     exact AWP.ret (Fin (And.intro hsz <| (And.intro @num.eq_1 <| @num.eq_2)) [] [])
   simp only [k1, ne_eq, not_true_eq_false, if_false] at hsz
   rw [k1] at r8
   split at hsz
   · repeat refine St (And.intro r1 <| r8) ct79 ?_
     exact AWP.ret (Fin hsz [] [])
   · repeat refine St (And.intro r1 <| r8) ct79 ?_
     exact AWP.ret (Fin hsz [] [])
 simp only [h253, h254, h255, if_false] at hsz
 repeat refine St r1 ct79 ?_
 exact AWP.ret (Fin hsz [] [])
def F80 : Fun
 | [.int .u64 n, .int .i64 most] => some ([], .t (.bool (decide (most < 0 ∨ most < n))))
 | _ => none
theorem ct80 : CT [] [0, 1, 4] [] := ⟨GClOk.nil _⟩
theorem c80 : ACon Try.prog 80 F80 := by
 refine aconc E_ok (rs := [.tmp 4 4]) Try.func80 rfl Try.ntmps80 (by kernel_rfl) rfl (by decide) F80 (np := 2) ?_ ?_
 · intro ts h; unfold F80; split <;> first | rfl | (simp at h; done)
 intro ts H r hF hwf
 unfold F80 at hF
 split at hF <;> try (cases hF; done)
 rename_i n most
 cases hF
 have hm := inK_i64 (hwf (.int .i64 most) (by simp))
 by_cases h1 : most < 0
 · repeat refine St h1 ct80 ?_
   exact AWP.ret (Fin h1 [] [])
 · have hw : IntKind.u64.wrap most = most := wrap_u64 (by omega) (by omega)
   repeat refine St (And.intro h1 <| hw) ct80 ?_
   exact AWP.ret (Fin h1 [] [])
def F54 : Fun
 | [.by b, .int .i64 most] => if b.length ≤ 549755813000 then some ([], .tup [.t (.by (lim b most).1), .t (.by (lim b most).2.1), .t (.int .i64 (lim b most).2.2)]) else none
 | _ => none
theorem ct54 : CT [(52, ⟨[false, false], treeG F52⟩), (79, ⟨[false], treeG F79⟩), (80, ⟨[false, false], treeG F80⟩)] [0, 1, 4, 5, 6, 7, 8, 9, 17, 21, 26] [] := ⟨(.cons c52.g (.cons c79.g (.cons c80.g (.nil _))))⟩
theorem c54 : ACon Try.prog 54 F54 := by
 refine aconc E_ok (rs := [.tmp 4 24, .tmp 5 24, .tmp 6 28]) Try.func54 rfl Try.ntmps54 (by kernel_rfl) rfl (by decide) F54 (np := 2) ?_ ?_
 · intro ts h; unfold F54; split <;> first | rfl | (simp at h; done)
 intro ts H r hF hwf
 unfold F54 at hF
 split at hF <;> try (cases hF; done)
 rename_i b most
 split at hF
 case isFalse => cases hF
 rename_i hc
 have hb := hc
 cases hF
 have hm := inK_i64 (hwf (.int .i64 most) (by simp))
 have hsl := sz_len b
 have hs : F79 [.by b] = some ([], .tup [.t (.int .u64 ((sz b).1 : Nat)), .t (.by (sz b).2.1), .t (.int .i64 (sz b).2.2)]) := if_pos hb
 have hl := lim.eq_1 b most
 unfold bnd at hl
 generalize lim b most = R at *
 generalize sz b = Z at *
 obtain ⟨n, q, e⟩ := Z
 dsimp only at hsl hs hl
 by_cases h1 : e = 0
 case neg =>
   simp only [h1, ne_eq, not_false_eq_true, if_true] at hl
   repeat refine St (And.intro hs <| h1) ct54 ?_
   exact AWP.ret (Fin hl [] [])
 subst h1
 simp only [ne_eq, not_true_eq_false, if_false] at hl
 by_cases h2 : most < 0 ∨ most < (n : Int)
 · simp only [h2, if_true, show ¬ (4 : Int) = 0 by omega, not_false_eq_true] at hl
   repeat refine St (And.intro hs <| And.intro @F80.eq_def <| h2) ct54 ?_
   exact AWP.ret (Fin hl [] [])
 simp only [h2, if_false, not_true_eq_false] at hl
 by_cases h3 : (q.length : Int) < (n : Int)
 · repeat refine St (And.intro hs <| And.intro @F80.eq_def <| And.intro h2 <| h3) ct54 ?_
   exact AWP.ret (Fin (And.intro hl <| And.intro @spA.eq_def <| And.intro @spB.eq_def <| And.intro @spE.eq_def <| And.intro h3 <| (show ¬ (n : Int) < 0 by omega)) [] [])
 have ht : F52 [.by q, .int .i64 (n : Int)] = some ([], .tup [.t (.by (spA q n)), .t (.by (spB q n)), .t (.int .i64 (spE q n))]) := if_pos (by omega)
 repeat refine St (And.intro hs <| And.intro @F80.eq_def <| And.intro h2 <| And.intro h3 <| ht) ct54 ?_
 exact AWP.ret (Fin hl [] [])
end Go.Fw

end

section
namespace Go.Fw
open Go Go.Proofs
noncomputable def F63 : Fun
 | [y] => match inv wT y with
   | some w => some ([], .t (.ba 32 (wB w).1))
   | none => none
 | _ => none
theorem ct63 : CT [] [0, 1, 2, 3, 4, 7] [] := ⟨GClOk.nil _⟩
set_option maxHeartbeats 2000000 in
theorem c63 : ACon Try.prog 63 F63 := by
 refine aconc E_ok (rs := [.cell 2 22]) Try.func63 rfl Try.ntmps63 (by kernel_rfl) rfl (by decide) F63 (np := 1) ?_ ?_
 · intro ts h; unfold F63; split <;> first | rfl | (simp at h; done)
 intro ts H r hF hwf
 unfold F63 at hF
 split at hF <;> try (cases hF; done)
 split at hF <;> try (cases hF; done)
 rename_i w hw
 cases hF
 obtain rfl := inv_inv hw
 have hL := wL_len w
 have hB : (wB w).1 = outW (wL w) 32 := (outW_32 hL).symm
 rw [hB]
 have hW : wT w = .ar 4 1 [.int .u64 (w.a.toNat : Int), .int .u64 (w.b.toNat : Int), .int .u64 (w.c.toNat : Int), .int .u64 (w.d.toNat : Int)] := rfl
 rw [hW]
 repeat refine St2 trivial ct63 ?_
 refine AWP.loop (G := { i : Nat // i ≤ 32 }) (fun i => ⟨[(1, .ptr 0 0 []), (2, .ptr 1 0 []), (3, .ptr 2 0 []), (4, .t (.int .i64 (i.1 : Int)))], [.bx (.t (.ar 4 1 [.int .u64 (w.a.toNat : Int), .int .u64 (w.b.toNat : Int), .int .u64 (w.c.toNat : Int), .int .u64 (w.d.toNat : Int)])), .bx (.t (.ba 32 (zby 32))), .bx (.t (.ba 32 (outW (wL w) i.1)))]⟩) (fun i => 32 - i.1) ⟨0, by omega⟩ (Wt @outW_0 [1, 2, 3, 4] [0, 1, 2]) ?_
 intro ⟨i, hi⟩
 dsimp only
 have hol := outW_len hL hi
 by_cases hlt : (i : Int) < 32
 · have hi32 : i < 32 := by omega
   have hset := outW_set hL hi32
   have e31 : IntKind.i64.wrap (31 - (i : Int)) = ((31 - i : Nat) : Int) := by rw [wrap_i64 (by omega) (by omega)]; omega
   have l31 : 31 - i < (outW (wL w) i).length := by omega
   have m31 : ((31 - i : Nat) : Int) < 32 := by omega
   have k31 : 31 - i < 32 := by omega
   have hdq : ∀ q r : Nat, i = 8 * q + r → r < 8 → IntKind.i64.wrap (Int.tdiv (i : Int) 8) = (q : Int) ∧ IntKind.i64.wrap (Int.tmod (i : Int) 8) = (r : Int) ∧ IntKind.i64.wrap (8 * (r : Int)) = ((8 * r : Nat) : Int) := by
     intro q r h1 h2
     refine ⟨?_, ?_, ?_⟩
     · rw [Int.tdiv_eq_ediv_of_nonneg (by omega), wrap_i64 (by omega) (by omega)]; omega
     · rw [Int.tmod_eq_emod_of_nonneg (by omega), wrap_i64 (by omega) (by omega)]; omega
     · rw [wrap_i64 (by omega) (by omega)]; omega
   have hn1 : IntKind.i64.wrap ((i : Int) + 1) = ((i + 1 : Nat) : Int) := by rw [wrap_i64 (by omega) (by omega)]; omega
   have hwl := wL_getD w
   rcases (by omega : i < 8 ∨ (8 ≤ i ∧ i < 16) ∨ (16 ≤ i ∧ i < 24) ∨ 24 ≤ i) with hq | hq | hq | hq
   · obtain ⟨r, hr⟩ : ∃ r, i = 8 * 0 + r := ⟨i - 8 * 0, by omega⟩
     have hr8 : r < 8 := by omega
     obtain ⟨d1, d2, d3⟩ := hdq 0 r hr hr8
     have d1' : IntKind.i64.wrap (Int.tdiv (i : Int) 8) = 0 := d1
     have hg : (wL w).getD i 0 = (le 8 (w.a.toNat : Int)).getD r 0 := by rw [show i = r by omega]; exact (hwl r hr8).1
     have r0 : (0 : Int) ≤ ((8 * r : Nat) : Int) := by omega
     have r1 : ¬ ((8 * r : Nat) : Int) < 0 := by omega
     have hw64 : IntKind.u64.wrap ((8 * r : Nat) : Int) = ((8 * r : Nat) : Int) := wrap_u64 (by omega) (by omega)
     obtain ⟨hb, hs, hne⟩ := byteD_of w.a r hr8
     rw [← hg] at hb
     repeat refine St2 (And.intro hlt <| And.intro hi32 <| And.intro e31 <| And.intro l31 <| And.intro m31 <| And.intro k31 <| And.intro d1' <| And.intro d2 <| And.intro d3 <| And.intro hw64 <| And.intro hb <| And.intro hs <| And.intro hne <| And.intro r0 <| And.intro r1 <| And.intro hset <| And.intro hol <| hn1) ct63 ?_
     exact ⟨⟨i + 1, by omega⟩, (Wt trivial [1, 2, 3, 4] [0, 1, 2]), by dsimp only; omega⟩
   · obtain ⟨r, hr⟩ : ∃ r, i = 8 * 1 + r := ⟨i - 8 * 1, by omega⟩
     have hr8 : r < 8 := by omega
     obtain ⟨d1, d2, d3⟩ := hdq 1 r hr hr8
     have d1' : IntKind.i64.wrap (Int.tdiv (i : Int) 8) = 1 := d1
     have hg : (wL w).getD i 0 = (le 8 (w.b.toNat : Int)).getD r 0 := by rw [show i = 8 + r by omega]; exact (hwl r hr8).2.1
     have r0 : (0 : Int) ≤ ((8 * r : Nat) : Int) := by omega
     have r1 : ¬ ((8 * r : Nat) : Int) < 0 := by omega
     have hw64 : IntKind.u64.wrap ((8 * r : Nat) : Int) = ((8 * r : Nat) : Int) := wrap_u64 (by omega) (by omega)
     obtain ⟨hb, hs, hne⟩ := byteD_of w.b r hr8
     rw [← hg] at hb
     repeat refine St2 (And.intro hlt <| And.intro hi32 <| And.intro e31 <| And.intro l31 <| And.intro m31 <| And.intro k31 <| And.intro d1' <| And.intro d2 <| And.intro d3 <| And.intro hw64 <| And.intro hb <| And.intro hs <| And.intro hne <| And.intro r0 <| And.intro r1 <| And.intro hset <| And.intro hol <| hn1) ct63 ?_
     exact ⟨⟨i + 1, by omega⟩, (Wt trivial [1, 2, 3, 4] [0, 1, 2]), by dsimp only; omega⟩
   · obtain ⟨r, hr⟩ : ∃ r, i = 8 * 2 + r := ⟨i - 8 * 2, by omega⟩
     have hr8 : r < 8 := by omega
     obtain ⟨d1, d2, d3⟩ := hdq 2 r hr hr8
     have d1' : IntKind.i64.wrap (Int.tdiv (i : Int) 8) = 2 := d1
     have hg : (wL w).getD i 0 = (le 8 (w.c.toNat : Int)).getD r 0 := by rw [show i = 16 + r by omega]; exact (hwl r hr8).2.2.1
     have r0 : (0 : Int) ≤ ((8 * r : Nat) : Int) := by omega
     have r1 : ¬ ((8 * r : Nat) : Int) < 0 := by omega
     have hw64 : IntKind.u64.wrap ((8 * r : Nat) : Int) = ((8 * r : Nat) : Int) := wrap_u64 (by omega) (by omega)
     obtain ⟨hb, hs, hne⟩ := byteD_of w.c r hr8
     rw [← hg] at hb
     repeat refine St2 (And.intro hlt <| And.intro hi32 <| And.intro e31 <| And.intro l31 <| And.intro m31 <| And.intro k31 <| And.intro d1' <| And.intro d2 <| And.intro d3 <| And.intro hw64 <| And.intro hb <| And.intro hs <| And.intro hne <| And.intro r0 <| And.intro r1 <| And.intro hset <| And.intro hol <| hn1) ct63 ?_
     exact ⟨⟨i + 1, by omega⟩, (Wt trivial [1, 2, 3, 4] [0, 1, 2]), by dsimp only; omega⟩
   · obtain ⟨r, hr⟩ : ∃ r, i = 8 * 3 + r := ⟨i - 8 * 3, by omega⟩
     have hr8 : r < 8 := by omega
     obtain ⟨d1, d2, d3⟩ := hdq 3 r hr hr8
     have d1' : IntKind.i64.wrap (Int.tdiv (i : Int) 8) = 3 := d1
     have hg : (wL w).getD i 0 = (le 8 (w.d.toNat : Int)).getD r 0 := by rw [show i = 24 + r by omega]; exact (hwl r hr8).2.2.2
     have r0 : (0 : Int) ≤ ((8 * r : Nat) : Int) := by omega
     have r1 : ¬ ((8 * r : Nat) : Int) < 0 := by omega
     have hw64 : IntKind.u64.wrap ((8 * r : Nat) : Int) = ((8 * r : Nat) : Int) := wrap_u64 (by omega) (by omega)
     obtain ⟨hb, hs, hne⟩ := byteD_of w.d r hr8
     rw [← hg] at hb
     repeat refine St2 (And.intro hlt <| And.intro hi32 <| And.intro e31 <| And.intro l31 <| And.intro m31 <| And.intro k31 <| And.intro d1' <| And.intro d2 <| And.intro d3 <| And.intro hw64 <| And.intro hb <| And.intro hs <| And.intro hne <| And.intro r0 <| And.intro r1 <| And.intro hset <| And.intro hol <| hn1) ct63 ?_
     exact ⟨⟨i + 1, by omega⟩, (Wt trivial [1, 2, 3, 4] [0, 1, 2]), by dsimp only; omega⟩
 · obtain rfl : i = 32 := by omega
   repeat refine St2 (And.intro hlt <| hol) ct63 ?_
   exact AWP.ret (Fin trivial [] [])
theorem rwbytes_c (w : W4) : F63 [wT w] = some ([], .t (.ba 32 (wB w).1)) := by
 simp only [F63, inv_of wT_injx]
def F55 : Fun
 | [.ba 32 l] => if h : l.length = 32 then some ([], .t (wT (wR ⟨l, h⟩))) else none
 | _ => none
theorem ct55 : CT [] [0, 1, 2, 3, 4, 7] [(5, [⟨0, [4], [], []⟩, ⟨0, [10], [], []⟩, ⟨0, [11], [], []⟩, ⟨0, [4], [], []⟩, ⟨0, [13], [], []⟩, ⟨0, [14], [], []⟩, ⟨1, [3, 15], [], []⟩, ⟨1, [16], [6], []⟩, ⟨0, [17], [6, 7], []⟩, ⟨0, [4], [], []⟩, ⟨1, [1, 19], [], []⟩, ⟨1, [20], [10], []⟩, ⟨1, [21], [10, 11], []⟩, ⟨0, [18, 22], [6, 7, 10, 11, 12], []⟩, ⟨1, [3, 12], [6, 7, 10, 11, 12], []⟩, ⟨2, [23, 24], [6, 7, 10, 11, 12, 14], []⟩])] := ⟨GClOk.nil _⟩
set_option maxHeartbeats 4000000 in
theorem c55 : ACon Try.prog 55 F55 := by
 refine aconc E_ok (rs := [.cell 2 42]) Try.func55 rfl Try.ntmps55 (by kernel_rfl) rfl (by decide) F55 (np := 1) ?_ ?_
 · intro ts h; unfold F55; split <;> first | rfl | (simp at h; done)
 intro ts H r hF hwf
 unfold F55 at hF
 split at hF <;> try (cases hF; done)
 rename_i l
 split at hF
 case isFalse => cases hF
 rename_i hl
 cases hF
 obtain ⟨h, hh⟩ : ∃ h : H32, h = ⟨l, hl⟩ := ⟨_, rfl⟩
 have hhl : l = h.1 := by rw [hh]
 rw [← hh]
 subst hhl
 have hL : h.1.reverse.length = 32 := by rw [List.length_reverse]; exact hl
 repeat refine St2 hl ct55 ?_
 have z0 : ∀ p, ((bigW h.1 p (tW 0 p)).toNat : Int) = 0 := fun p => by rw [tW_0, bigW_0]; rfl
 refine AWP.loop (G := { i : Nat // i ≤ 32 }) (fun i => ⟨[(1, .ptr 0 0 []), (2, .ptr 1 0 []), (3, .ptr 2 0 []), (4, .t (.int .i64 (i.1 : Int)))], [.bx (.t (.ba 32 h.1)), .bx (.t (.ar 4 1 [.int .u64 0, .int .u64 0, .int .u64 0, .int .u64 0])), .bx (.t (.ar 4 1 [.int .u64 ((bigW h.1 3 (tW i.1 3)).toNat : Int), .int .u64 ((bigW h.1 2 (tW i.1 2)).toNat : Int), .int .u64 ((bigW h.1 1 (tW i.1 1)).toNat : Int), .int .u64 ((bigW h.1 0 (tW i.1 0)).toNat : Int)]))]⟩) (fun i => 32 - i.1) ⟨0, by omega⟩ (Wt z0 [1, 2, 3, 4] [0, 1, 2]) ?_
 intro ⟨i, hi⟩
 dsimp only
 by_cases hlt : (i : Int) < 32
 · have hi32 : i < 32 := by omega
   have hl32 : i < h.1.length := by omega
   have hn1 : IntKind.i64.wrap ((i : Int) + 1) = ((i + 1 : Nat) : Int) := by rw [wrap_i64 (by omega) (by omega)]; omega
   have hcw : IntKind.u64.wrap ((h.1.getD i 0).toNat : Int) = ((h.1.getD i 0).toNat : Int) := by
     have := (h.1.getD i 0).toNat_lt
     exact wrap_u64 (by omega) (by omega)
   have hdq : ∀ q r : Nat, i = 8 * q + r → r < 8 → IntKind.i64.wrap (Int.tdiv (i : Int) 8) = (q : Int) := by
     intro q r h1 h2
     rw [Int.tdiv_eq_ediv_of_nonneg (by omega), wrap_i64 (by omega) (by omega)]; omega
   rcases (by omega : i < 8 ∨ (8 ≤ i ∧ i < 16) ∨ (16 ≤ i ∧ i < 24) ∨ 24 ≤ i) with hq | hq | hq | hq
   · obtain ⟨r, hr⟩ : ∃ r, i = 8 * 0 + r := ⟨i - 8 * 0, by omega⟩
     have hr8 : r < 8 := by omega
     have d1' : IntKind.i64.wrap (Int.tdiv (i : Int) 8) = 0 := hdq 0 r hr hr8
     have d4 : IntKind.i64.wrap (3 - 0) = 3 := by rw [wrap_i64 (by omega) (by omega)]; omega
     have hst := bigW_step hl (p := 0) (t := r) (by omega) hr8
     rw [← hr] at hst
     have t0 : tW i 0 = r := tW_at hr hr8
     have t1 : tW (i + 1) 0 = r + 1 := tW_next hr hr8
     have s1 : tW (i + 1) 1 = tW i 1 := tW_same hr hr8 (by omega)
     have s2 : tW (i + 1) 2 = tW i 2 := tW_same hr hr8 (by omega)
     have s3 : tW (i + 1) 3 = tW i 3 := tW_same hr hr8 (by omega)
     rw [t0]
     repeat refine St2 (And.intro hlt <| And.intro hi32 <| And.intro hl32 <| And.intro d1' <| And.intro d4 <| And.intro hcw <| And.intro hst <| And.intro hn1 <| @u8.eq_def) ct55 ?_
     exact ⟨⟨i + 1, by omega⟩, (Wt (And.intro t1 <| And.intro s1 <| And.intro s2 <| s3) [1, 2, 3, 4] [0, 1, 2]), by dsimp only; omega⟩
   · obtain ⟨r, hr⟩ : ∃ r, i = 8 * 1 + r := ⟨i - 8 * 1, by omega⟩
     have hr8 : r < 8 := by omega
     have d1' : IntKind.i64.wrap (Int.tdiv (i : Int) 8) = 1 := hdq 1 r hr hr8
     have d4 : IntKind.i64.wrap (3 - 1) = 2 := by rw [wrap_i64 (by omega) (by omega)]; omega
     have hst := bigW_step hl (p := 1) (t := r) (by omega) hr8
     rw [← hr] at hst
     have t0 : tW i 1 = r := tW_at hr hr8
     have t1 : tW (i + 1) 1 = r + 1 := tW_next hr hr8
     have s0 : tW (i + 1) 0 = tW i 0 := tW_same hr hr8 (by omega)
     have s2 : tW (i + 1) 2 = tW i 2 := tW_same hr hr8 (by omega)
     have s3 : tW (i + 1) 3 = tW i 3 := tW_same hr hr8 (by omega)
     rw [t0]
     repeat refine St2 (And.intro hlt <| And.intro hi32 <| And.intro hl32 <| And.intro d1' <| And.intro d4 <| And.intro hcw <| And.intro hst <| And.intro hn1 <| @u8.eq_def) ct55 ?_
     exact ⟨⟨i + 1, by omega⟩, (Wt (And.intro t1 <| And.intro s0 <| And.intro s2 <| s3) [1, 2, 3, 4] [0, 1, 2]), by dsimp only; omega⟩
   · obtain ⟨r, hr⟩ : ∃ r, i = 8 * 2 + r := ⟨i - 8 * 2, by omega⟩
     have hr8 : r < 8 := by omega
     have d1' : IntKind.i64.wrap (Int.tdiv (i : Int) 8) = 2 := hdq 2 r hr hr8
     have d4 : IntKind.i64.wrap (3 - 2) = 1 := by rw [wrap_i64 (by omega) (by omega)]; omega
     have hst := bigW_step hl (p := 2) (t := r) (by omega) hr8
     rw [← hr] at hst
     have t0 : tW i 2 = r := tW_at hr hr8
     have t1 : tW (i + 1) 2 = r + 1 := tW_next hr hr8
     have s0 : tW (i + 1) 0 = tW i 0 := tW_same hr hr8 (by omega)
     have s1 : tW (i + 1) 1 = tW i 1 := tW_same hr hr8 (by omega)
     have s3 : tW (i + 1) 3 = tW i 3 := tW_same hr hr8 (by omega)
     rw [t0]
     repeat refine St2 (And.intro hlt <| And.intro hi32 <| And.intro hl32 <| And.intro d1' <| And.intro d4 <| And.intro hcw <| And.intro hst <| And.intro hn1 <| @u8.eq_def) ct55 ?_
     exact ⟨⟨i + 1, by omega⟩, (Wt (And.intro t1 <| And.intro s0 <| And.intro s1 <| s3) [1, 2, 3, 4] [0, 1, 2]), by dsimp only; omega⟩
   · obtain ⟨r, hr⟩ : ∃ r, i = 8 * 3 + r := ⟨i - 8 * 3, by omega⟩
     have hr8 : r < 8 := by omega
     have d1' : IntKind.i64.wrap (Int.tdiv (i : Int) 8) = 3 := hdq 3 r hr hr8
     have d4 : IntKind.i64.wrap (3 - 3) = 0 := by rw [wrap_i64 (by omega) (by omega)]; omega
     have hst := bigW_step hl (p := 3) (t := r) (by omega) hr8
     rw [← hr] at hst
     have t0 : tW i 3 = r := tW_at hr hr8
     have t1 : tW (i + 1) 3 = r + 1 := tW_next hr hr8
     have s0 : tW (i + 1) 0 = tW i 0 := tW_same hr hr8 (by omega)
     have s1 : tW (i + 1) 1 = tW i 1 := tW_same hr hr8 (by omega)
     have s2 : tW (i + 1) 2 = tW i 2 := tW_same hr hr8 (by omega)
     rw [t0]
     repeat refine St2 (And.intro hlt <| And.intro hi32 <| And.intro hl32 <| And.intro d1' <| And.intro d4 <| And.intro hcw <| And.intro hst <| And.intro hn1 <| @u8.eq_def) ct55 ?_
     exact ⟨⟨i + 1, by omega⟩, (Wt (And.intro t1 <| And.intro s0 <| And.intro s1 <| s2) [1, 2, 3, 4] [0, 1, 2]), by dsimp only; omega⟩
 · obtain rfl : i = 32 := by omega
   have hfin : ∀ p, p < 4 → bigW h.1 p (tW 32 p) = nth8 h.1.reverse (3 - p) := fun p hp => by
     rw [tW_32 hp]; exact bigW_8 hl hp
   have f0 : bigW h.1 3 (tW 32 3) = nth8 h.1.reverse 0 := hfin 3 (by omega)
   have f1 : bigW h.1 2 (tW 32 2) = nth8 h.1.reverse 1 := hfin 2 (by omega)
   have f2 : bigW h.1 1 (tW 32 1) = nth8 h.1.reverse 2 := hfin 1 (by omega)
   have f3 : bigW h.1 0 (tW 32 0) = nth8 h.1.reverse 3 := hfin 0 (by omega)
   rw [f0, f1, f2, f3]
   repeat refine St2 hlt ct55 ?_
   exact AWP.ret (Fin (And.intro @wT.eq_def <| And.intro @wR.eq_def <| @wOf.eq_def) [] [])
theorem rwread_c (h : H32) : F55 [.ba 32 h.1] = some ([], .t (wT (wR h))) := dif_pos h.2
end Go.Fw

end
