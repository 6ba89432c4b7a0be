/- LockRuns: two more of its drawn regions, each over a frame of which only what it reads is known. -/
import Derived.Test.YtcceankldiafpaaLockRn
set_option linter.unusedVariables false
set_option linter.unusedSimpArgs false
set_option linter.unusedSectionVars false
set_option maxRecDepth 100000
namespace Go.Proofs.Ytcceankldiafpaa.Lock
open Go.RowKit Go.WideShapes Go.Deep Go.Proofs.Ytcceankldiafpaa.Mem Go.Proofs.Ytcceankldiafpaa.Open Go.Proofs.Ytcceankldiafpaa.Maps
attribute [local go_sem] getD_put
set_option maxHeartbeats 2000000 in
theorem reg30_yy {C : Code} (hC : C = regF 30 Try.f7) {V : World} {g5 off5 j n5 c5 gy : Nat} {A1 A2 : Option Addr} {n1 c1 n2 c2 : Nat} {p : Int × Int} {z1 z2 : Int} (j0 : (0 : Int) ≤ (j : Int)) (j1 : (j : Int) < (n5 : Int)) (hr : z1 < 0) (hr2 : z2 < 0)
    (HF1 : Hid (∀ V', Below V.heap.size V V' → Calls Try.prog 20 #[.slice A1 n1 c1, .agg #[.int .u64 p.1, .int .i64 p.2]] V' fun e w1 => e = .returned (.int .i64 z1) ∧ Below V.heap.size V w1))
    (HF2 : Hid (∀ V', Below V.heap.size V V' → Calls Try.prog 20 #[.slice A2 n2 c2, .agg #[.int .u64 p.1, .int .i64 p.2]] V' fun e w1 => e = .returned (.int .i64 z2) ∧ Below V.heap.size V w1))
    (HS : Hid (∀ V', Below V.heap.size V V' → ((V'.cell? ⟨g5, off5 + j * 3 + 1, none⟩ = some (.slice A1 n1 c1) ∧ V'.cell? ⟨g5, off5 + j * 3 + 2, none⟩ = some (.slice A2 n2 c2)) ∧ V'.cell? ⟨gy, 1, none⟩ = some (.int .u64 p.1) ∧ V'.cell? ⟨gy, 2, none⟩ = some (.int .i64 p.2)))) {x0 x1 x2 x3 x5 x7 x8 x9 x10 x11 x13 x14 x15 x16 x17 x18 x19 x20 x21 x22 x23 x24 x25 x26 x27 x28 x29 x30 x31 x32 x33 x34 x35 x36 x37 x38 x39 x40 x41 x42 x43 x44 x45 x46 x47 x48 x49 x50 x51 x52 x53 x54 x55 x56 x57 x58 x59 x60 x61 x62 x63 x64 x65 x66 x67 x68 x69 x70 x71 x72 x73 x74 x75 x76 x77 x78 x79 x80 x81 x82 x83 x84 x85 x86 x87 x88 x89 x90 x91 x92 x93 x94 x95 x96 x97 x98 x99 x100 x101 x102 x103 x104 x105 x106 x107 x108 x109 x110 x111 x112 x113 x114 x115 x116 x117 x118 x119 x120 x121 x122 x123 x124 x125 x126 x127 x128 x129 x130 x131 x132 x133 x134 x135 x136 x137 x138 x139 x140 x141 x142 x143 x144 x145 x146 x147 x148 x149 x150 x151 x152 x153 x154 x155 x156 x157 x158 x159 x160 x161 x162 x163 x164 x165 x166 x167 x168 x169 x170 x171 x172 x173 x174 x175 x176 x177 x178 x179 x180 x181 x182 x183 x184 x185 x186 x187 x188 x189 x190 x191 x192 x193 x194 x195 x196 x197 x198 x199 x200 x201 x202 x203 x204 x205 x206 x207 x208 x209 x210 x211 x212 x213 x214 x215 x216 x217 x218 x219 x220 x221 x222 x223 x224 x225 x226 x227 x228 x229 x230 x231 x232 x233 x234 x235 x236 x237 x238 x239 x240 x241 x242 x243 x244 x245 x246 x247 x248 x249 x250 x251 x252 x253 x254 x255 x256 x257 x258 x259 x260 x261 x262 x263 x264 x265 x266 x267 x268 x269 x270 x271 x272 x273 x274 x275 x276 x277 x278 x279 x280 x281 x282 x283 x284 x285 x286 x287 : Value} {N : Act → World → Prop}
    (hN : ∀ (u141 u142 u143 u144 u145 u146 u147 u148 u149 u150 u151 u152 u153 u154 u155 u156 u157 u158 u159 : Value) (W : World), Below V.heap.size V W → N ⟨#[x0, x1, x2, x3, .slice (some ⟨g5, off5, none⟩) n5 c5, x5, .pointer (some ⟨gy, 0, none⟩), x7, x8, x9, x10, x11, .int .i64 (j : Nat), x13, x14, x15, x16, x17, x18, x19, x20, x21, x22, x23, x24, x25, x26, x27, x28, x29, x30, x31, x32, x33, x34, x35, x36, x37, x38, x39, x40, x41, x42, x43, x44, x45, x46, x47, x48, x49, x50, x51, x52, x53, x54, x55, x56, x57, x58, x59, x60, x61, x62, x63, x64, x65, x66, x67, x68, x69, x70, x71, x72, x73, x74, x75, x76, x77, x78, x79, x80, x81, x82, x83, x84, x85, x86, x87, x88, x89, x90, x91, x92, x93, x94, x95, x96, x97, x98, x99, x100, x101, x102, x103, x104, x105, x106, x107, x108, x109, x110, x111, x112, x113, x114, x115, x116, x117, x118, x119, x120, x121, x122, x123, x124, x125, x126, x127, x128, x129, x130, x131, x132, x133, x134, x135, x136, x137, x138, x139, x140, u141, u142, u143, u144, u145, u146, u147, u148, u149, u150, u151, u152, u153, u154, u155, u156, u157, u158, u159, .bool true, x161, x162, x163, x164, x165, x166, x167, x168, x169, x170, x171, x172, x173, x174, x175, x176, x177, x178, x179, x180, x181, x182, x183, x184, x185, x186, x187, x188, x189, x190, x191, x192, x193, x194, x195, x196, x197, x198, x199, x200, x201, x202, x203, x204, x205, x206, x207, x208, x209, x210, x211, x212, x213, x214, x215, x216, x217, x218, x219, x220, x221, x222, x223, x224, x225, x226, x227, x228, x229, x230, x231, x232, x233, x234, x235, x236, x237, x238, x239, x240, x241, x242, x243, x244, x245, x246, x247, x248, x249, x250, x251, x252, x253, x254, x255, x256, x257, x258, x259, x260, x261, x262, x263, x264, x265, x266, x267, x268, x269, x270, x271, x272, x273, x274, x275, x276, x277, x278, x279, x280, x281, x282, x283, x284, x285, x286, x287], []⟩ W) : Code.wp Try.prog C (Nrm N) ⟨#[x0, x1, x2, x3, .slice (some ⟨g5, off5, none⟩) n5 c5, x5, .pointer (some ⟨gy, 0, none⟩), x7, x8, x9, x10, x11, .int .i64 (j : Nat), x13, x14, x15, x16, x17, x18, x19, x20, x21, x22, x23, x24, x25, x26, x27, x28, x29, x30, x31, x32, x33, x34, x35, x36, x37, x38, x39, x40, x41, x42, x43, x44, x45, x46, x47, x48, x49, x50, x51, x52, x53, x54, x55, x56, x57, x58, x59, x60, x61, x62, x63, x64, x65, x66, x67, x68, x69, x70, x71, x72, x73, x74, x75, x76, x77, x78, x79, x80, x81, x82, x83, x84, x85, x86, x87, x88, x89, x90, x91, x92, x93, x94, x95, x96, x97, x98, x99, x100, x101, x102, x103, x104, x105, x106, x107, x108, x109, x110, x111, x112, x113, x114, x115, x116, x117, x118, x119, x120, x121, x122, x123, x124, x125, x126, x127, x128, x129, x130, x131, x132, x133, x134, x135, x136, x137, x138, x139, x140, x141, x142, x143, x144, x145, x146, x147, x148, x149, x150, x151, x152, x153, x154, x155, x156, x157, x158, x159, x160, x161, x162, x163, x164, x165, x166, x167, x168, x169, x170, x171, x172, x173, x174, x175, x176, x177, x178, x179, x180, x181, x182, x183, x184, x185, x186, x187, x188, x189, x190, x191, x192, x193, x194, x195, x196, x197, x198, x199, x200, x201, x202, x203, x204, x205, x206, x207, x208, x209, x210, x211, x212, x213, x214, x215, x216, x217, x218, x219, x220, x221, x222, x223, x224, x225, x226, x227, x228, x229, x230, x231, x232, x233, x234, x235, x236, x237, x238, x239, x240, x241, x242, x243, x244, x245, x246, x247, x248, x249, x250, x251, x252, x253, x254, x255, x256, x257, x258, x259, x260, x261, x262, x263, x264, x265, x266, x267, x268, x269, x270, x271, x272, x273, x274, x275, x276, x277, x278, x279, x280, x281, x282, x283, x284, x285, x286, x287], []⟩ V := by
  subst hC
  conv => arg 2; whnf
  have HN := Lib.hid hN
  clear hN
  go_region_held3 (fun V' => ((V'.cell? ⟨g5, off5 + j * 3 + 1, none⟩ = some (.slice A1 n1 c1) ∧ V'.cell? ⟨g5, off5 + j * 3 + 2, none⟩ = some (.slice A2 n2 c2)) ∧ V'.cell? ⟨gy, 1, none⟩ = some (.int .u64 p.1) ∧ V'.cell? ⟨gy, 2, none⟩ = some (.int .i64 p.2)))
    ((refine HS.out _ ?_; repeat (first | with_reducible exact Below.refl _ _ | exact HB2.out | exact HB1.out | with_reducible refine Below.drew ?_)))
    ((first
      | (go_at_call 20; (with_reducible refine (HF1.out _ ?_).mono ?_); (repeat (first | with_reducible exact Below.refl _ _ | with_reducible refine Below.drew ?_)); rintro e w1 ⟨rfl, hb1⟩; have HB1 := Lib.hid hb1; clear hb1 HF1)
      | (go_at_call 20; (with_reducible refine (HF2.out _ ?_).mono ?_); (repeat (first | exact HB1.out | with_reducible exact Below.refl _ _ | with_reducible refine Below.drew ?_)); rintro e w2 ⟨rfl, hb2⟩; have HB2 := Lib.hid hb2; clear hb2 HF2)))
  all_goals
    rename_i hheld
    clear hheld
    exact HN.out _ _ _ _ _ _ _ _ _ _ _ _ _ _ _ _ _ _ _ _ HB2.out
set_option maxHeartbeats 2000000 in
theorem reg30_yn {C : Code} (hC : C = regF 30 Try.f7) {V : World} {g5 off5 j n5 c5 gy : Nat} {A1 A2 : Option Addr} {n1 c1 n2 c2 : Nat} {p : Int × Int} {z1 z2 : Int} (j0 : (0 : Int) ≤ (j : Int)) (j1 : (j : Int) < (n5 : Int)) (hr : z1 < 0) (hr2 : decide (z2 < 0) = false)
    (HF1 : Hid (∀ V', Below V.heap.size V V' → Calls Try.prog 20 #[.slice A1 n1 c1, .agg #[.int .u64 p.1, .int .i64 p.2]] V' fun e w1 => e = .returned (.int .i64 z1) ∧ Below V.heap.size V w1))
    (HF2 : Hid (∀ V', Below V.heap.size V V' → Calls Try.prog 20 #[.slice A2 n2 c2, .agg #[.int .u64 p.1, .int .i64 p.2]] V' fun e w1 => e = .returned (.int .i64 z2) ∧ Below V.heap.size V w1))
    (HS : Hid (∀ V', Below V.heap.size V V' → ((V'.cell? ⟨g5, off5 + j * 3 + 1, none⟩ = some (.slice A1 n1 c1) ∧ V'.cell? ⟨g5, off5 + j * 3 + 2, none⟩ = some (.slice A2 n2 c2)) ∧ V'.cell? ⟨gy, 1, none⟩ = some (.int .u64 p.1) ∧ V'.cell? ⟨gy, 2, none⟩ = some (.int .i64 p.2)))) {x0 x1 x2 x3 x5 x7 x8 x9 x10 x11 x13 x14 x15 x16 x17 x18 x19 x20 x21 x22 x23 x24 x25 x26 x27 x28 x29 x30 x31 x32 x33 x34 x35 x36 x37 x38 x39 x40 x41 x42 x43 x44 x45 x46 x47 x48 x49 x50 x51 x52 x53 x54 x55 x56 x57 x58 x59 x60 x61 x62 x63 x64 x65 x66 x67 x68 x69 x70 x71 x72 x73 x74 x75 x76 x77 x78 x79 x80 x81 x82 x83 x84 x85 x86 x87 x88 x89 x90 x91 x92 x93 x94 x95 x96 x97 x98 x99 x100 x101 x102 x103 x104 x105 x106 x107 x108 x109 x110 x111 x112 x113 x114 x115 x116 x117 x118 x119 x120 x121 x122 x123 x124 x125 x126 x127 x128 x129 x130 x131 x132 x133 x134 x135 x136 x137 x138 x139 x140 x141 x142 x143 x144 x145 x146 x147 x148 x149 x150 x151 x152 x153 x154 x155 x156 x157 x158 x159 x160 x161 x162 x163 x164 x165 x166 x167 x168 x169 x170 x171 x172 x173 x174 x175 x176 x177 x178 x179 x180 x181 x182 x183 x184 x185 x186 x187 x188 x189 x190 x191 x192 x193 x194 x195 x196 x197 x198 x199 x200 x201 x202 x203 x204 x205 x206 x207 x208 x209 x210 x211 x212 x213 x214 x215 x216 x217 x218 x219 x220 x221 x222 x223 x224 x225 x226 x227 x228 x229 x230 x231 x232 x233 x234 x235 x236 x237 x238 x239 x240 x241 x242 x243 x244 x245 x246 x247 x248 x249 x250 x251 x252 x253 x254 x255 x256 x257 x258 x259 x260 x261 x262 x263 x264 x265 x266 x267 x268 x269 x270 x271 x272 x273 x274 x275 x276 x277 x278 x279 x280 x281 x282 x283 x284 x285 x286 x287 : Value} {N : Act → World → Prop}
    (hN : ∀ (u141 u142 u143 u144 u145 u146 u147 u148 u149 u150 u151 u152 u153 u154 u155 u156 u157 u158 u159 : Value) (W : World), Below V.heap.size V W → N ⟨#[x0, x1, x2, x3, .slice (some ⟨g5, off5, none⟩) n5 c5, x5, .pointer (some ⟨gy, 0, none⟩), x7, x8, x9, x10, x11, .int .i64 (j : Nat), x13, x14, x15, x16, x17, x18, x19, x20, x21, x22, x23, x24, x25, x26, x27, x28, x29, x30, x31, x32, x33, x34, x35, x36, x37, x38, x39, x40, x41, x42, x43, x44, x45, x46, x47, x48, x49, x50, x51, x52, x53, x54, x55, x56, x57, x58, x59, x60, x61, x62, x63, x64, x65, x66, x67, x68, x69, x70, x71, x72, x73, x74, x75, x76, x77, x78, x79, x80, x81, x82, x83, x84, x85, x86, x87, x88, x89, x90, x91, x92, x93, x94, x95, x96, x97, x98, x99, x100, x101, x102, x103, x104, x105, x106, x107, x108, x109, x110, x111, x112, x113, x114, x115, x116, x117, x118, x119, x120, x121, x122, x123, x124, x125, x126, x127, x128, x129, x130, x131, x132, x133, x134, x135, x136, x137, x138, x139, x140, u141, u142, u143, u144, u145, u146, u147, u148, u149, u150, u151, u152, u153, u154, u155, u156, u157, u158, u159, .bool false, x161, x162, x163, x164, x165, x166, x167, x168, x169, x170, x171, x172, x173, x174, x175, x176, x177, x178, x179, x180, x181, x182, x183, x184, x185, x186, x187, x188, x189, x190, x191, x192, x193, x194, x195, x196, x197, x198, x199, x200, x201, x202, x203, x204, x205, x206, x207, x208, x209, x210, x211, x212, x213, x214, x215, x216, x217, x218, x219, x220, x221, x222, x223, x224, x225, x226, x227, x228, x229, x230, x231, x232, x233, x234, x235, x236, x237, x238, x239, x240, x241, x242, x243, x244, x245, x246, x247, x248, x249, x250, x251, x252, x253, x254, x255, x256, x257, x258, x259, x260, x261, x262, x263, x264, x265, x266, x267, x268, x269, x270, x271, x272, x273, x274, x275, x276, x277, x278, x279, x280, x281, x282, x283, x284, x285, x286, x287], []⟩ W) : Code.wp Try.prog C (Nrm N) ⟨#[x0, x1, x2, x3, .slice (some ⟨g5, off5, none⟩) n5 c5, x5, .pointer (some ⟨gy, 0, none⟩), x7, x8, x9, x10, x11, .int .i64 (j : Nat), x13, x14, x15, x16, x17, x18, x19, x20, x21, x22, x23, x24, x25, x26, x27, x28, x29, x30, x31, x32, x33, x34, x35, x36, x37, x38, x39, x40, x41, x42, x43, x44, x45, x46, x47, x48, x49, x50, x51, x52, x53, x54, x55, x56, x57, x58, x59, x60, x61, x62, x63, x64, x65, x66, x67, x68, x69, x70, x71, x72, x73, x74, x75, x76, x77, x78, x79, x80, x81, x82, x83, x84, x85, x86, x87, x88, x89, x90, x91, x92, x93, x94, x95, x96, x97, x98, x99, x100, x101, x102, x103, x104, x105, x106, x107, x108, x109, x110, x111, x112, x113, x114, x115, x116, x117, x118, x119, x120, x121, x122, x123, x124, x125, x126, x127, x128, x129, x130, x131, x132, x133, x134, x135, x136, x137, x138, x139, x140, x141, x142, x143, x144, x145, x146, x147, x148, x149, x150, x151, x152, x153, x154, x155, x156, x157, x158, x159, x160, x161, x162, x163, x164, x165, x166, x167, x168, x169, x170, x171, x172, x173, x174, x175, x176, x177, x178, x179, x180, x181, x182, x183, x184, x185, x186, x187, x188, x189, x190, x191, x192, x193, x194, x195, x196, x197, x198, x199, x200, x201, x202, x203, x204, x205, x206, x207, x208, x209, x210, x211, x212, x213, x214, x215, x216, x217, x218, x219, x220, x221, x222, x223, x224, x225, x226, x227, x228, x229, x230, x231, x232, x233, x234, x235, x236, x237, x238, x239, x240, x241, x242, x243, x244, x245, x246, x247, x248, x249, x250, x251, x252, x253, x254, x255, x256, x257, x258, x259, x260, x261, x262, x263, x264, x265, x266, x267, x268, x269, x270, x271, x272, x273, x274, x275, x276, x277, x278, x279, x280, x281, x282, x283, x284, x285, x286, x287], []⟩ V := by
  subst hC
  conv => arg 2; whnf
  have HN := Lib.hid hN
  clear hN
  go_region_held3 (fun V' => ((V'.cell? ⟨g5, off5 + j * 3 + 1, none⟩ = some (.slice A1 n1 c1) ∧ V'.cell? ⟨g5, off5 + j * 3 + 2, none⟩ = some (.slice A2 n2 c2)) ∧ V'.cell? ⟨gy, 1, none⟩ = some (.int .u64 p.1) ∧ V'.cell? ⟨gy, 2, none⟩ = some (.int .i64 p.2)))
    ((refine HS.out _ ?_; repeat (first | with_reducible exact Below.refl _ _ | exact HB2.out | exact HB1.out | with_reducible refine Below.drew ?_)))
    ((first
      | (go_at_call 20; (with_reducible refine (HF1.out _ ?_).mono ?_); (repeat (first | with_reducible exact Below.refl _ _ | with_reducible refine Below.drew ?_)); rintro e w1 ⟨rfl, hb1⟩; have HB1 := Lib.hid hb1; clear hb1 HF1)
      | (go_at_call 20; (with_reducible refine (HF2.out _ ?_).mono ?_); (repeat (first | exact HB1.out | with_reducible exact Below.refl _ _ | with_reducible refine Below.drew ?_)); rintro e w2 ⟨rfl, hb2⟩; have HB2 := Lib.hid hb2; clear hb2 HF2)))
  all_goals
    rename_i hheld
    clear hheld
    exact HN.out _ _ _ _ _ _ _ _ _ _ _ _ _ _ _ _ _ _ _ _ HB2.out
set_option maxHeartbeats 2000000 in
theorem reg30_n {C : Code} (hC : C = regF 30 Try.f7) {V : World} {g5 off5 j n5 c5 gy : Nat} {A1 A2 : Option Addr} {n1 c1 n2 c2 : Nat} {p : Int × Int} {z1 z2 : Int} (j0 : (0 : Int) ≤ (j : Int)) (j1 : (j : Int) < (n5 : Int)) (hr : decide (z1 < 0) = false)
    (HF1 : Hid (∀ V', Below V.heap.size V V' → Calls Try.prog 20 #[.slice A1 n1 c1, .agg #[.int .u64 p.1, .int .i64 p.2]] V' fun e w1 => e = .returned (.int .i64 z1) ∧ Below V.heap.size V w1))
    (HF2 : Hid (∀ V', Below V.heap.size V V' → Calls Try.prog 20 #[.slice A2 n2 c2, .agg #[.int .u64 p.1, .int .i64 p.2]] V' fun e w1 => e = .returned (.int .i64 z2) ∧ Below V.heap.size V w1))
    (HS : Hid (∀ V', Below V.heap.size V V' → ((V'.cell? ⟨g5, off5 + j * 3 + 1, none⟩ = some (.slice A1 n1 c1) ∧ V'.cell? ⟨g5, off5 + j * 3 + 2, none⟩ = some (.slice A2 n2 c2)) ∧ V'.cell? ⟨gy, 1, none⟩ = some (.int .u64 p.1) ∧ V'.cell? ⟨gy, 2, none⟩ = some (.int .i64 p.2)))) {x0 x1 x2 x3 x5 x7 x8 x9 x10 x11 x13 x14 x15 x16 x17 x18 x19 x20 x21 x22 x23 x24 x25 x26 x27 x28 x29 x30 x31 x32 x33 x34 x35 x36 x37 x38 x39 x40 x41 x42 x43 x44 x45 x46 x47 x48 x49 x50 x51 x52 x53 x54 x55 x56 x57 x58 x59 x60 x61 x62 x63 x64 x65 x66 x67 x68 x69 x70 x71 x72 x73 x74 x75 x76 x77 x78 x79 x80 x81 x82 x83 x84 x85 x86 x87 x88 x89 x90 x91 x92 x93 x94 x95 x96 x97 x98 x99 x100 x101 x102 x103 x104 x105 x106 x107 x108 x109 x110 x111 x112 x113 x114 x115 x116 x117 x118 x119 x120 x121 x122 x123 x124 x125 x126 x127 x128 x129 x130 x131 x132 x133 x134 x135 x136 x137 x138 x139 x140 x141 x142 x143 x144 x145 x146 x147 x148 x149 x150 x151 x152 x153 x154 x155 x156 x157 x158 x159 x160 x161 x162 x163 x164 x165 x166 x167 x168 x169 x170 x171 x172 x173 x174 x175 x176 x177 x178 x179 x180 x181 x182 x183 x184 x185 x186 x187 x188 x189 x190 x191 x192 x193 x194 x195 x196 x197 x198 x199 x200 x201 x202 x203 x204 x205 x206 x207 x208 x209 x210 x211 x212 x213 x214 x215 x216 x217 x218 x219 x220 x221 x222 x223 x224 x225 x226 x227 x228 x229 x230 x231 x232 x233 x234 x235 x236 x237 x238 x239 x240 x241 x242 x243 x244 x245 x246 x247 x248 x249 x250 x251 x252 x253 x254 x255 x256 x257 x258 x259 x260 x261 x262 x263 x264 x265 x266 x267 x268 x269 x270 x271 x272 x273 x274 x275 x276 x277 x278 x279 x280 x281 x282 x283 x284 x285 x286 x287 : Value} {N : Act → World → Prop}
    (hN : ∀ (u141 u142 u143 u144 u145 u146 u147 u148 u149 u150 u151 u152 u153 u154 u155 u156 u157 u158 u159 u160 : Value) A' W, Keeps (fun i => Nat.ble 141 i && Nat.ble i 160) ⟨#[x0, x1, x2, x3, .slice (some ⟨g5, off5, none⟩) n5 c5, x5, .pointer (some ⟨gy, 0, none⟩), x7, x8, x9, x10, x11, .int .i64 (j : Nat), x13, x14, x15, x16, x17, x18, x19, x20, x21, x22, x23, x24, x25, x26, x27, x28, x29, x30, x31, x32, x33, x34, x35, x36, x37, x38, x39, x40, x41, x42, x43, x44, x45, x46, x47, x48, x49, x50, x51, x52, x53, x54, x55, x56, x57, x58, x59, x60, x61, x62, x63, x64, x65, x66, x67, x68, x69, x70, x71, x72, x73, x74, x75, x76, x77, x78, x79, x80, x81, x82, x83, x84, x85, x86, x87, x88, x89, x90, x91, x92, x93, x94, x95, x96, x97, x98, x99, x100, x101, x102, x103, x104, x105, x106, x107, x108, x109, x110, x111, x112, x113, x114, x115, x116, x117, x118, x119, x120, x121, x122, x123, x124, x125, x126, x127, x128, x129, x130, x131, x132, x133, x134, x135, x136, x137, x138, x139, x140, u141, u142, u143, u144, u145, u146, u147, u148, u149, u150, u151, u152, u153, u154, u155, u156, u157, u158, u159, u160, x161, x162, x163, x164, x165, x166, x167, x168, x169, x170, x171, x172, x173, x174, x175, x176, x177, x178, x179, x180, x181, x182, x183, x184, x185, x186, x187, x188, x189, x190, x191, x192, x193, x194, x195, x196, x197, x198, x199, x200, x201, x202, x203, x204, x205, x206, x207, x208, x209, x210, x211, x212, x213, x214, x215, x216, x217, x218, x219, x220, x221, x222, x223, x224, x225, x226, x227, x228, x229, x230, x231, x232, x233, x234, x235, x236, x237, x238, x239, x240, x241, x242, x243, x244, x245, x246, x247, x248, x249, x250, x251, x252, x253, x254, x255, x256, x257, x258, x259, x260, x261, x262, x263, x264, x265, x266, x267, x268, x269, x270, x271, x272, x273, x274, x275, x276, x277, x278, x279, x280, x281, x282, x283, x284, x285, x286, x287], []⟩ A' → A'.tmps.getD 160 undef = .bool false → Below V.heap.size V W → N A' W) : Code.wp Try.prog C (Nrm N) ⟨#[x0, x1, x2, x3, .slice (some ⟨g5, off5, none⟩) n5 c5, x5, .pointer (some ⟨gy, 0, none⟩), x7, x8, x9, x10, x11, .int .i64 (j : Nat), x13, x14, x15, x16, x17, x18, x19, x20, x21, x22, x23, x24, x25, x26, x27, x28, x29, x30, x31, x32, x33, x34, x35, x36, x37, x38, x39, x40, x41, x42, x43, x44, x45, x46, x47, x48, x49, x50, x51, x52, x53, x54, x55, x56, x57, x58, x59, x60, x61, x62, x63, x64, x65, x66, x67, x68, x69, x70, x71, x72, x73, x74, x75, x76, x77, x78, x79, x80, x81, x82, x83, x84, x85, x86, x87, x88, x89, x90, x91, x92, x93, x94, x95, x96, x97, x98, x99, x100, x101, x102, x103, x104, x105, x106, x107, x108, x109, x110, x111, x112, x113, x114, x115, x116, x117, x118, x119, x120, x121, x122, x123, x124, x125, x126, x127, x128, x129, x130, x131, x132, x133, x134, x135, x136, x137, x138, x139, x140, x141, x142, x143, x144, x145, x146, x147, x148, x149, x150, x151, x152, x153, x154, x155, x156, x157, x158, x159, x160, x161, x162, x163, x164, x165, x166, x167, x168, x169, x170, x171, x172, x173, x174, x175, x176, x177, x178, x179, x180, x181, x182, x183, x184, x185, x186, x187, x188, x189, x190, x191, x192, x193, x194, x195, x196, x197, x198, x199, x200, x201, x202, x203, x204, x205, x206, x207, x208, x209, x210, x211, x212, x213, x214, x215, x216, x217, x218, x219, x220, x221, x222, x223, x224, x225, x226, x227, x228, x229, x230, x231, x232, x233, x234, x235, x236, x237, x238, x239, x240, x241, x242, x243, x244, x245, x246, x247, x248, x249, x250, x251, x252, x253, x254, x255, x256, x257, x258, x259, x260, x261, x262, x263, x264, x265, x266, x267, x268, x269, x270, x271, x272, x273, x274, x275, x276, x277, x278, x279, x280, x281, x282, x283, x284, x285, x286, x287], []⟩ V := by
  subst hC
  conv => arg 2; whnf
  have HN := Lib.hid hN
  clear hN
  refine wp_region_held (S := fun V' => ((V'.cell? ⟨g5, off5 + j * 3 + 1, none⟩ = some (.slice A1 n1 c1) ∧ V'.cell? ⟨g5, off5 + j * 3 + 2, none⟩ = some (.slice A2 n2 c2)) ∧ V'.cell? ⟨gy, 1, none⟩ = some (.int .u64 p.1) ∧ V'.cell? ⟨gy, 2, none⟩ = some (.int .i64 p.2))) (by kernel_rfl) ?_
  change wpAnyH _ _ _ _ _ _ _ _ (World.drew _)
  refine wpAnyH_take (i := 0) (v := ?_) rfl (by kernel_rfl) (by kernel_rfl) (by kernel_rfl) (fun _ _ _ h => h) (Or.inl ⟨by kernel_rfl, ?_⟩) ?_ ?_
  rotate_left
  · intro w hS
    go_simp
    try with_reducible rfl
  · exact (HS.out _ (Below.refl _ _).drew)
  refine wpAnyH_take (i := 1) (v := ?_) rfl (by kernel_rfl) (by kernel_rfl) (by kernel_rfl) (fun _ _ _ h => h) (Or.inl ⟨by kernel_rfl, ?_⟩) ?_ ?_
  rotate_left
  · intro w hS
    go_simp
    try with_reducible rfl
  · exact (HS.out _ (Below.refl _ _).drew)
  refine wpAnyH_take (i := 2) (v := ?_) rfl (by kernel_rfl) (by kernel_rfl) (by kernel_rfl) (fun _ _ _ h => h) (Or.inl ⟨by kernel_rfl, ?_⟩) ?_ ?_
  rotate_left
  · intro w hS
    go_simp
    try with_reducible rfl
  · exact (HS.out _ (Below.refl _ _).drew)
  refine wpAnyH_take (i := 3) (v := ?_) rfl (by kernel_rfl) (by kernel_rfl) (by kernel_rfl) (fun _ _ _ h => h) (Or.inl ⟨by kernel_rfl, ?_⟩) ?_ ?_
  rotate_left
  · intro w hS
    go_simp
    try with_reducible rfl
  · exact (HS.out _ (Below.refl _ _).drew)
  refine wpAnyH_take (i := 4) (v := ?_) rfl (by kernel_rfl) (by kernel_rfl) (by kernel_rfl) (fun _ _ _ h => h) (Or.inl ⟨by kernel_rfl, ?_⟩) ?_ ?_
  rotate_left
  · intro w hS
    go_simp
    try with_reducible rfl
  · exact (HS.out _ (Below.refl _ _).drew)
  refine wpAnyH_take (i := 5) (v := ?_) rfl (by kernel_rfl) (by kernel_rfl) (by kernel_rfl) (fun _ _ _ h => h) (Or.inl ⟨by kernel_rfl, ?_⟩) ?_ ?_
  rotate_left
  · intro w hS
    go_simp
    try with_reducible rfl
  · exact (HS.out _ (Below.refl _ _).drew)
  refine wpAnyH_take (i := 6) (v := ?_) rfl (by kernel_rfl) (by kernel_rfl) (by kernel_rfl) (fun _ _ _ h => h) (Or.inl ⟨by kernel_rfl, ?_⟩) ?_ ?_
  rotate_left
  · intro w hS
    go_simp
    try with_reducible rfl
  · exact (HS.out _ (Below.refl _ _).drew)
  refine wpAnyH_all (rs := [7]) (by kernel_rfl) (by simp) ?_
  intro i hi
  have e7 : i = 7 := by simpa using hi
  subst e7
  clear hi
  refine wpOp_step rfl (fun K hK => ?_)
  go_simp
  go_at_call 20
  (with_reducible refine (HF1.out _ ?_).mono ?_)
  · exact (Below.refl _ _).drew
  rintro e w1 ⟨rfl, hb1⟩
  have HB1 := Lib.hid hb1
  clear hb1
  dsimp only
  refine hK _ _ ⟨HS.out _ HB1.out, ?_⟩
  clear hK K
  refine wpAnyH_take (i := 8) (v := ?_) rfl (by kernel_rfl) (by kernel_rfl) (by kernel_rfl) (fun _ _ _ h => h) (Or.inl ⟨by kernel_rfl, ?_⟩) ?_ ?_
  rotate_left
  · intro w hS
    go_simp
    try with_reducible rfl
  · exact (HS.out _ HB1.out)
  refine wpAnyH_take (i := 9) (v := ?_) rfl (by kernel_rfl) (by kernel_rfl) (by kernel_rfl) (fun _ _ _ h => h) (Or.inl ⟨by kernel_rfl, ?_⟩) ?_ ?_
  rotate_left
  · intro w hS
    go_simp
    try with_reducible rfl
  · exact (HS.out _ HB1.out)
  refine wpAnyH_take (i := 10) (v := undef) rfl (by kernel_rfl) (by kernel_rfl) (by kernel_rfl) (fun _ _ _ h => h) (Or.inr ⟨by kernel_rfl, rfl⟩) (HS.out _ HB1.out) ?_
  refine wpAnyH_take (i := 11) (v := undef) rfl (by kernel_rfl) (by kernel_rfl) (by kernel_rfl) (fun _ _ _ h => h) (Or.inr ⟨by kernel_rfl, rfl⟩) (HS.out _ HB1.out) ?_
  refine wpAnyH_take (i := 12) (v := undef) rfl (by kernel_rfl) (by kernel_rfl) (by kernel_rfl) (fun _ _ _ h => h) (Or.inr ⟨by kernel_rfl, rfl⟩) (HS.out _ HB1.out) ?_
  refine wpAnyH_take (i := 13) (v := undef) rfl (by kernel_rfl) (by kernel_rfl) (by kernel_rfl) (fun _ _ _ h => h) (Or.inr ⟨by kernel_rfl, rfl⟩) (HS.out _ HB1.out) ?_
  refine wpAnyH_take (i := 14) (v := undef) rfl (by kernel_rfl) (by kernel_rfl) (by kernel_rfl) (fun _ _ _ h => h) (Or.inr ⟨by kernel_rfl, rfl⟩) (HS.out _ HB1.out) ?_
  refine wpAnyH_take (i := 15) (v := undef) rfl (by kernel_rfl) (by kernel_rfl) (by kernel_rfl) (fun _ _ _ h => h) (Or.inr ⟨by kernel_rfl, rfl⟩) (HS.out _ HB1.out) ?_
  refine wpAnyH_take (i := 16) (v := undef) rfl (by kernel_rfl) (by kernel_rfl) (by kernel_rfl) (fun _ _ _ h => h) (Or.inr ⟨by kernel_rfl, rfl⟩) (HS.out _ HB1.out) ?_
  refine wpAnyH_take (i := 17) (v := undef) rfl (by kernel_rfl) (by kernel_rfl) (by kernel_rfl) (fun _ _ _ h => h) (Or.inr ⟨by kernel_rfl, rfl⟩) (HS.out _ HB1.out) ?_
  refine wpAnyH_take (i := 18) (v := undef) rfl (by kernel_rfl) (by kernel_rfl) (by kernel_rfl) (fun _ _ _ h => h) (Or.inr ⟨by kernel_rfl, rfl⟩) (HS.out _ HB1.out) ?_
  refine wpAnyH_take (i := 19) (v := ?_) rfl (by kernel_rfl) (by kernel_rfl) (by kernel_rfl) (fun _ _ _ h => h) (Or.inl ⟨by kernel_rfl, ?_⟩) ?_ ?_
  rotate_left
  · intro w hS
    go_simp
    try with_reducible rfl
  · exact (HS.out _ HB1.out)
  refine wpAnyH_done (by kernel_rfl) ?_ _
  apply HN.out
  · repeat (first | ((with_reducible refine Keeps.put (i := ?_) ?_ ?_ ?_); rotate_left; rotate_left; rfl; rfl))
    with_reducible exact Keeps.same _ _
  · kernel_rfl
  · exact HB1.out
set_option maxHeartbeats 2000000 in
theorem reg31_law {C : Code} (hC : C = regF 31 Try.f7) {V : World} {O : Nat → Prop} {B g5 off5 j n5 c5 gy ng : Nat} {A1 A2 : Option Addr} {n1 c1 n2 c2 : Nat} {key : S} {p : Int × Int} {l : Line} {ns : List Gr} (j0 : (0 : Int) ≤ (j : Int)) (j1 : (j : Int) < (n5 : Int))
    (HAW : Hid (∀ V', Below V.heap.size V V' → Calls Try.prog 21 #[.agg #[.string key, .slice A1 n1 c1, .slice A2 n2 c2], .agg #[.int .u64 p.1, .int .i64 p.2]] V' fun e w1 => ∃ (B1 : Option Addr) (m1 c1 : Nat) (B2 : Option Addr) (m2 c2 : Nat) (B3 : Option Addr) (c3 : Nat), e = .returned (.tuple #[.agg #[.string key, .slice B1 m1 c1, .slice B2 m2 c2], .slice B3 ng c3]) ∧ LnP O V V' w1 B (.slice B1 m1 c1) (.slice B2 m2 c2) l ∧ GOwn w1 V'.heap.size (.slice B3 ng c3) ns))
    (HS : Hid (∀ V', Below V.heap.size V V' → ((V'.cell? ⟨g5, off5 + j * 3, none⟩ = some (.string key) ∧ V'.cell? ⟨g5, off5 + j * 3 + 1, none⟩ = some (.slice A1 n1 c1) ∧ V'.cell? ⟨g5, off5 + j * 3 + 2, none⟩ = some (.slice A2 n2 c2)) ∧ V'.cell? ⟨gy, 1, none⟩ = some (.int .u64 p.1) ∧ V'.cell? ⟨gy, 2, none⟩ = some (.int .i64 p.2)))) (HOL : Hid (∀ g, O g → g < V.heap.size)) {A : Act} {N : Act → World → Prop}
    (hsz : A.tmps.size = 288) (hs4 : ∀ h, A.tmps[4]'h = .slice (some ⟨g5, off5, none⟩) n5 c5) (hs12 : ∀ h, A.tmps[12]'h = .int .i64 (j : Nat)) (hs6 : ∀ h, A.tmps[6]'h = .pointer (some ⟨gy, 0, none⟩))
    (hN : ∀ A' W gn B1 m1 c1 B2 m2 c2 B3 c3, Keeps (fun i => Nat.ble 161 i && Nat.ble i 170 || Nat.beq i 13 || Nat.beq i 14) A A' → A'.tmps.getD 13 undef = .pointer (some ⟨gn, 0, none⟩) → A'.tmps.getD 14 undef = .slice B3 ng c3 → NxR O V W B gn key (.slice B1 m1 c1) (.slice B2 m2 c2) l → GOwn W V.heap.size (.slice B3 ng c3) ns → N A' W) : Code.wp Try.prog C (Nrm N) A V := by
  subst hC
  conv => arg 2; whnf
  have HN := Lib.hid hN
  clear hN
  go_region_held3 (fun V' => ((V'.cell? ⟨g5, off5 + j * 3, none⟩ = some (.string key) ∧ V'.cell? ⟨g5, off5 + j * 3 + 1, none⟩ = some (.slice A1 n1 c1) ∧ V'.cell? ⟨g5, off5 + j * 3 + 2, none⟩ = some (.slice A2 n2 c2)) ∧ V'.cell? ⟨gy, 1, none⟩ = some (.int .u64 p.1) ∧ V'.cell? ⟨gy, 2, none⟩ = some (.int .i64 p.2)))
    ((refine HS.out _ ?_; repeat (first | with_reducible exact Below.refl _ _ | exact HVW.out | with_reducible refine Below.drew ?_ | with_reducible refine bl_alloc ?_ _ | with_reducible refine bl_setV ?_ | with_reducible refine bl_setW HVW.out.size ?_)))
    ((first
      | (go_at_call 21; refine (HAW.out _ ?_).mono ?_; (repeat (first | with_reducible exact Below.refl _ _ | with_reducible refine Below.drew ?_ | with_reducible refine bl_alloc ?_ _)); rintro e w1 ⟨B1, m1, c1, B2, m2, c2, B3, c3, rfl, hp, hgg⟩; have HVW : Hid (Below V.heap.size V w1) := Lib.hid (hp.vl.trans (hp.bl.mono hp.vl.size)); have hw0 := HVW.out.size; (first | (with_reducible have hrw := z_row hp; obtain ⟨z0, z1, z2⟩ := row3c hrw; obtain ⟨z3, z4, z5⟩ := line_free hrw; clear hrw; have HFX := Lib.hid (nx_a (k := key) hp HOL.out); have HGX := Lib.hid (nxg_a (k := key) (hv := .slice B1 m1 c1) (wv := .slice B2 m2 c2) hgg)) | (with_reducible have HFX := Lib.hid (nx_b (k := key) hp); have HGX := Lib.hid (nxg_b (k := key) (hv := .slice B1 m1 c1) (wv := .slice B2 m2 c2) hgg))); clear hp hgg)))
  all_goals
    rename_i hheld
    clear hheld
    refine HN.out _ _ _ _ _ _ _ _ _ _ _ ?_ ?_ ?_ HFX.out HGX.out
    · (repeat (first | ((with_reducible refine Keeps.set ?_ ?_); rotate_left; rfl) | with_reducible exact Keeps.refl _ _))
    · go_simp
    · go_simp
#print axioms reg30_yy
#print axioms reg30_n
#print axioms reg31_law
end Go.Proofs.Ytcceankldiafpaa.Lock
