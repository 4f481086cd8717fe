/- What the functions compute, read off the program, with its proof. -/
import Derived.Test.YtcdobfeeabhkeaaAll0
set_option autoImplicit false
set_option linter.unusedVariables false
set_option maxRecDepth 100000
namespace Go.Pv.Try
open Go Go.Pv
/-! serinette/subframe.Take -/
abbrev G_subframe_Take := (List Int) × Int × Int × Int × Int → Option (((List Int) × e9 × Int × (List Int) × Int × Int))
abbrev L_subframe_Take_29 := Int × Int × (List Int) × Int × Int × Int × Int × Int × Int × Int × (List Int) × Bool × Int × (List e0) × Int × Int × Int × Int × Int × (List Int) × Bool × Int × (List e0) × (List Int) → Option (((List Int) × Int × Int × Int × Int × Int × Int × Int × (List Int) × Bool × Int × (List e0) × Int × Int × Int × Int × Int × (List Int) × Bool × Int × (List e0) × (List Int)))
def B_subframe_Take_29 (again : L_subframe_Take_29) : L_subframe_Take_29
  | (a475, a476, a477, a478, a479, a480, a481, a482, a483, a484, a485, a486, a487, a488, a489, a490, a491, a492, a493, a494, a495, a496, a497, a498) =>
    Option.bind (α := (Int × Int × (List Int) × Int × Int × Int × Int × Int × Int × Int × (List Int) × Bool × Int × (List e0) × Int × Int × Int × Int × Int × (List Int) × Bool × Int × (List e0) × (List Int)) ⊕ ((List Int) × Int × Int × Int × Int × Int × Int × Int × (List Int) × Bool × Int × (List e0) × Int × Int × Int × Int × Int × (List Int) × Bool × Int × (List e0) × (List Int))) (
      if (decide (a476 < a475)) = true then
        some ((.inl (a475, a476, a477, a478, a479, a480, a481, a482, a483, a484, a485, a486, a487, a488, a489, a490, a491, a492, a493, a494, a495, a496, a497, a498)))
      else
        some ((.inr (a477, a478, a479, a480, a481, a482, a483, a484, a485, a486, a487, a488, a489, a490, a491, a492, a493, a494, a495, a496, a497, a498)))) fun o => match o with
      | (.inl (x499, x500, x501, x502, x503, x504, x505, x506, x507, x508, x509, x510, x511, x512, x513, x514, x515, x516, x517, x518, x519, x520, x521, x522)) =>
        (inb x500 (List.length x522)).bind fun x523 =>
        (idx x522 x500).bind fun x524 =>
        (shlI .i64 x524 x514).bind fun x525 =>
        (inb x500 (List.length x522)).bind fun x526 =>
        (idx x522 x500).bind fun x527 =>
        again ((x499, (addI .i64 x500 ((1 : Int))), x501, x502, x503, x504, x505, x506, x507, x508, x509, x510, x511, x512, x513, x514, x515, x516, x517, x518, x519, x520, x521, (List.set x522 (Int.toNat x500) x525)))
      | (.inr (x528, x529, x530, x531, x532, x533, x534, x535, x536, x537, x538, x539, x540, x541, x542, x543, x544, x545, x546, x547, x548, x549)) =>
        some ((x528, x529, x530, x531, x532, x533, x534, x535, x536, x537, x538, x539, x540, x541, x542, x543, x544, x545, x546, x547, x548, x549))
noncomputable def F_subframe_Take_29 : L_subframe_Take_29 := lfp B_subframe_Take_29
abbrev S_subframe_Take_29 (l : L_subframe_Take_29) : LoopS := ⟨⟨.normal, [], [(7, .ptr 28672 0 0), (9, .ptr 36864 0 0), (14, .lref 57344 0), (122, vI), (123, vI)], [(0, 1, .box [vB, vI, vI]), (28672, 0, .box [vI, vI, vI, vI, vI, vL, vO, vI, .val (.slice y0)]), (36864, 0, .box [vI, vI, vI, vI, vI, vL, vO, vI, .val (.slice y0)]), (57344, 0, .own tI)], [tI, tI, tB, tI, tI, tI, tI, tI, tI, tI, tL, tO, tI, Ty.slice y0, tI, tI, tI, tI, tI, tL, tO, tI, Ty.slice y0, tL]⟩, [⟨.exit 4, [], [(7, .ptr 28672 0 0), (9, .ptr 36864 0 0), (14, .lref 57344 0)], [(0, 1, .box [vB, vI, vI]), (28672, 0, .box [vI, vI, vI, vI, vI, vL, vO, vI, .val (.slice y0)]), (36864, 0, .box [vI, vI, vI, vI, vI, vL, vO, vI, .val (.slice y0)]), (57344, 0, .own tI)], [tB, tI, tI, tI, tI, tI, tI, tI, tL, tO, tI, Ty.slice y0, tI, tI, tI, tI, tI, tL, tO, tI, Ty.slice y0, tL]⟩], l⟩
def F_subframe_Take (g_bits_Reader_Fail : G_bits_Reader_Fail) (g_section_Take : G_section_Take) (g_slices_Repeat_sint_int : G_slices_Repeat_sint_int) (g_subframe_begin : G_subframe_begin) (g_subframe_linear : G_subframe_linear) (g_subframe_numbers : G_subframe_numbers) (g_subframe_restored : G_subframe_restored) (l_29 : L_subframe_Take_29) : G_subframe_Take
  | (p1, p2, p3, p4, p5) =>
    Option.bind (α := (Int × Int × Bool × (List Int) × Int × Int × Int × Int × Int × Int × Int × (List Int) × Bool × Int × (List e0))) (
      if (decide (p5 < ((4 : Int)))) = true then
        some ((p4, p5, true, p1, p2, p3, (0 : Int), (0 : Int), (0 : Int), (0 : Int), (0 : Int), ([] : List Int), false, (0 : Int), ([] : List e0)))
      else
        if (decide (p5 > ((33 : Int)))) = true then
          some ((p4, p5, true, p1, p2, p3, (0 : Int), (0 : Int), (0 : Int), (0 : Int), (0 : Int), ([] : List Int), false, (0 : Int), ([] : List e0)))
        else
          if (decide (p4 < ((1 : Int)))) = true then
            some ((p4, p5, true, p1, p2, p3, (0 : Int), (0 : Int), (0 : Int), (0 : Int), (0 : Int), ([] : List Int), false, (0 : Int), ([] : List e0)))
          else
            some ((p4, p5, (decide (p4 > ((65535 : Int)))), p1, p2, p3, (0 : Int), (0 : Int), (0 : Int), (0 : Int), (0 : Int), ([] : List Int), false, (0 : Int), ([] : List e0)))) fun (x6, x7, x8, x9, x10, x11, x12, x13, x14, x15, x16, x17, x18, x19, x20) =>
    if x8 = true then
      some ((([] : List Int), ((0 : Int), ((0 : Int), ((0 : Int), (((0 : Int), ((0 : Int), (([] : List Int), ()))), ((false, ((0 : Int), (([] : List e0), ()))), ()))))), (1 : Int), x9, x10, x11))
    else
      (g_subframe_begin ((x9, x10, x11, x6, x7))).bind fun (x21, x22, x23, x24, x25, x26) =>
      if (x23 != ((0 : Int))) = true then
        some ((([] : List Int), ((0 : Int), ((0 : Int), ((0 : Int), (((0 : Int), ((0 : Int), (([] : List Int), ()))), ((false, ((0 : Int), (([] : List e0), ()))), ()))))), x23, x24, x25, x26))
      else
        (g_subframe_numbers ((x24, x25, x26, (Option.getD (lookM x21.1 ((setM ((3 : Int)) x22 ((setM ((2 : Int)) x22 ((setM ((1 : Int)) x6 ((setM ((0 : Int)) ((1 : Int)) (([] : List (Int × Int)))))))))))) (0 : Int)), (subI .i64 x7 x21.2.1)))).bind fun (x27, x28, x29, x30) =>
        (g_bits_Reader_Fail ((x28, x29, x30))).bind fun (x31, x32, x33, x34) =>
        if (x31 != ((0 : Int))) = true then
          (g_bits_Reader_Fail ((x32, x33, x34))).bind fun (x35, x36, x37, x38) =>
          some ((([] : List Int), ((0 : Int), ((0 : Int), ((0 : Int), (((0 : Int), ((0 : Int), (([] : List Int), ()))), ((false, ((0 : Int), (([] : List e0), ()))), ()))))), x35, x36, x37, x38))
        else
          Option.bind (α := ((List Int) × Int × Int × Int × Int × Int × Int × Int × (List Int) × Bool × Int × (List e0) × Int × Int × Int × Int × Int × (List Int) × Bool × Int × (List e0) × (List Int)) ⊕ (Int × (List Int) × Int × Int × (List Int) × Int × Int × Int × Int × Int × (List Int) × Bool × Int × (List e0))) (
            Option.bind (α := (Int × Int × Int × (List Int) × Int × Int × Int × Int × Int × Int × Int × (List Int) × Bool × Int × (List e0) × Int × Int × Int × Int × Int × (List Int) × Bool × Int × (List e0) × (List Int)) ⊕ ((List Int) × Int × Int × Int × Int × Int × Int × Int × (List Int) × Bool × Int × (List e0) × Int × Int × Int × Int × Int × (List Int) × Bool × Int × (List e0) × (List Int)) ⊕ (Int × (List Int) × Int × Int × (List Int) × Int × Int × Int × Int × Int × (List Int) × Bool × Int × (List e0))) (
              Option.bind (α := (Int × Int × Int × (List Int) × Int × Int × Int × Int × Int × Int × Int × (List Int) × Bool × Int × (List e0) × Int × Int × Int × Int × Int × (List Int) × Bool × Int × (List e0) × (List Int)) ⊕ ((List Int) × Int × Int × Int × Int × Int × Int × Int × (List Int) × Bool × Int × (List e0) × Int × Int × Int × Int × Int × (List Int) × Bool × Int × (List e0) × (List Int)) ⊕ (Int × Int × Int × (List Int) × Int × Int × Int × Int × Int × Int × Int × (List Int) × Bool × Int × (List e0) × Int × Int × Int × Int × Int × (List Int) × Bool × Int × (List e0) × (List Int))) (
                Option.bind (α := (Int × (List Int) × Int × Int × Int × Int × Int × Int × Int × (List Int) × Bool × Int × (List e0) × Int × Int × Int × Int × Int × (List Int) × Bool × Int × (List e0) × (List Int)) ⊕ ((List Int) × Int × Int × Int × Int × Int × Int × Int × (List Int) × Bool × Int × (List e0) × Int × Int × Int × Int × Int × (List Int) × Bool × Int × (List e0) × (List Int)) ⊕ (Int × Int × Int × (List Int) × Int × Int × Int × Int × Int × Int × Int × (List Int) × Bool × Int × (List e0) × Int × Int × Int × Int × Int × (List Int) × Bool × Int × (List e0) × (List Int)) ⊕ (Int × Int × Int × (List Int) × Int × Int × Int × Int × Int × Int × Int × (List Int) × Bool × Int × (List e0) × Int × Int × Int × Int × Int × (List Int) × Bool × Int × (List e0) × (List Int))) (
                  Option.bind (α := (Int × Int × Int × Int × (List Int) × Int × Int × Int × Int × Int × Int × Int × (List Int) × Bool × Int × (List e0) × Int × Int × Int × Int × Int × (List Int) × Bool × Int × (List e0) × (List Int)) ⊕ (Int × (List Int) × Int × Int × Int × Int × Int × Int × Int × (List Int) × Bool × Int × (List e0) × Int × Int × Int × Int × Int × (List Int) × Bool × Int × (List e0) × (List Int))) (
                    if (x21.1 == ((0 : Int))) = true then
                      some ((.inr (x6, x32, x33, x34, x12, x13, x14, x15, x16, x17, x18, x19, x20, x21.1, x21.2.1, x21.2.2.1, x21.2.2.2.1.1, x21.2.2.2.1.2.1, x21.2.2.2.1.2.2.1, x21.2.2.2.2.1.1, x21.2.2.2.2.1.2.1, x21.2.2.2.2.1.2.2.1, x27)))
                    else
                      some ((.inl (x6, x22, (subI .i64 x7 x21.2.1), x21.1, x32, x33, x34, x12, x13, x14, x15, x16, x17, x18, x19, x20, x21.1, x21.2.1, x21.2.2.1, x21.2.2.2.1.1, x21.2.2.2.1.2.1, x21.2.2.2.1.2.2.1, x21.2.2.2.2.1.1, x21.2.2.2.2.1.2.1, x21.2.2.2.2.1.2.2.1, x27)))) fun o => match o with
                    | (.inl (x39, x40, x41, x42, x43, x44, x45, x46, x47, x48, x49, x50, x51, x52, x53, x54, x55, x56, x57, x58, x59, x60, x61, x62, x63, x64)) =>
                      Option.bind (α := (Int × Int × Int × Int × (List Int) × Int × Int × Int × Int × Int × Int × Int × (List Int) × Bool × Int × (List e0) × Int × Int × Int × Int × Int × (List Int) × Bool × Int × (List e0) × (List Int)) ⊕ (Int × Int × Int × (List Int) × Int × Int × Int × Int × Int × Int × Int × (List Int) × Bool × Int × (List e0) × Int × Int × Int × Int × Int × (List Int) × Bool × Int × (List e0) × (List Int))) (
                        if (x42 == ((3 : Int))) = true then
                          some ((.inr (x39, x40, x41, x43, x44, x45, x46, x47, x48, x49, x50, x51, x52, x53, x54, x55, x56, x57, x58, x59, x60, x61, x62, x63, x64)))
                        else
                          some ((.inl (x39, x40, x41, x42, x43, x44, x45, x46, x47, x48, x49, x50, x51, x52, x53, x54, x55, x56, x57, x58, x59, x60, x61, x62, x63, x64)))) fun o => match o with
                        | (.inl (x65, x66, x67, x68, x69, x70, x71, x72, x73, x74, x75, x76, x77, x78, x79, x80, x81, x82, x83, x84, x85, x86, x87, x88, x89, x90)) =>
                          Option.bind (α := ((List Int) × Int × Int × Int × Int × Int × Int × Int × (List Int) × Bool × Int × (List e0) × Int × Int × Int × Int × Int × (List Int) × Bool × Int × (List e0) × (List Int)) ⊕ (Int × Int × Int × (List Int) × Int × Int × Int × Int × Int × Int × Int × (List Int) × Bool × Int × (List e0) × Int × Int × Int × Int × Int × (List Int) × Bool × Int × (List e0) × (List Int))) (
                            if (x68 == ((2 : Int))) = true then
                              some ((.inr (x65, x66, x67, x69, x70, x71, x72, x73, x74, x75, x76, x77, x78, x79, x80, x81, x82, x83, x84, x85, x86, x87, x88, x89, x90)))
                            else
                              some ((.inl (x69, x70, x71, x72, x73, x74, x75, x76, x77, x78, x79, x80, x81, x82, x83, x84, x85, x86, x87, x88, x89, x90)))) fun o => match o with
                            | (.inl (x91, x92, x93, x94, x95, x96, x97, x98, x99, x100, x101, x102, x103, x104, x105, x106, x107, x108, x109, x110, x111, x112)) =>
                              some ((.inr (.inl (x91, x92, x93, x94, x95, x96, x97, x98, x99, x100, x101, x102, x103, x104, x105, x106, x107, x108, x109, x110, x111, x112))))
                            | (.inr (x113, x114, x115, x116, x117, x118, x119, x120, x121, x122, x123, x124, x125, x126, x127, x128, x129, x130, x131, x132, x133, x134, x135, x136, x137)) =>
                              some ((.inr (.inr (.inl (x113, x114, x115, x116, x117, x118, x119, x120, x121, x122, x123, x124, x125, x126, x127, x128, x129, x130, x131, x132, x133, x134, x135, x136, x137)))))
                        | (.inr (x138, x139, x140, x141, x142, x143, x144, x145, x146, x147, x148, x149, x150, x151, x152, x153, x154, x155, x156, x157, x158, x159, x160, x161, x162)) =>
                          some ((.inr (.inr (.inr (x138, x139, x140, x141, x142, x143, x144, x145, x146, x147, x148, x149, x150, x151, x152, x153, x154, x155, x156, x157, x158, x159, x160, x161, x162)))))
                    | (.inr (x163, x164, x165, x166, x167, x168, x169, x170, x171, x172, x173, x174, x175, x176, x177, x178, x179, x180, x181, x182, x183, x184, x185)) =>
                      some ((.inl (x163, x164, x165, x166, x167, x168, x169, x170, x171, x172, x173, x174, x175, x176, x177, x178, x179, x180, x181, x182, x183, x184, x185)))) fun o => match o with
                  | (.inl (x186, x187, x188, x189, x190, x191, x192, x193, x194, x195, x196, x197, x198, x199, x200, x201, x202, x203, x204, x205, x206, x207, x208)) =>
                    (g_slices_Repeat_sint_int ((x208, x186))).bind fun x209 =>
                    some ((.inr (.inl (x187, x188, x189, x190, x191, x192, x193, x194, x195, x196, x197, x198, x199, x200, x201, x202, x203, x204, x205, x206, x207, x209))))
                  | (.inr (.inl (x210, x211, x212, x213, x214, x215, x216, x217, x218, x219, x220, x221, x222, x223, x224, x225, x226, x227, x228, x229, x230, x231))) =>
                    some ((.inr (.inl (x210, x211, x212, x213, x214, x215, x216, x217, x218, x219, x220, x221, x222, x223, x224, x225, x226, x227, x228, x229, x230, x231))))
                  | (.inr (.inr (.inl (x232, x233, x234, x235, x236, x237, x238, x239, x240, x241, x242, x243, x244, x245, x246, x247, x248, x249, x250, x251, x252, x253, x254, x255, x256)))) =>
                    some ((.inr (.inr (x232, x233, x234, x235, x236, x237, x238, x239, x240, x241, x242, x243, x244, x245, x246, x247, x248, x249, x250, x251, x252, x253, x254, x255, x256))))
                  | (.inr (.inr (.inr (x257, x258, x259, x260, x261, x262, x263, x264, x265, x266, x267, x268, x269, x270, x271, x272, x273, x274, x275, x276, x277, x278, x279, x280, x281)))) =>
                    some ((.inl (x257, x258, x259, x260, x261, x262, x263, x264, x265, x266, x267, x268, x269, x270, x271, x272, x273, x274, x275, x276, x277, x278, x279, x280, x281)))) fun o => match o with
                | (.inl (x282, x283, x284, x285, x286, x287, x288, x289, x290, x291, x292, x293, x294, x295, x296, x297, x298, x299, x300, x301, x302, x303, x304, x305, x306)) =>
                  (g_subframe_linear ((x285, x286, x287, x283))).bind fun (x307, x308, x309, x310, x311) =>
                  if (x308 != ((0 : Int))) = true then
                    some ((.inr (.inr (x308, x309, x310, x311, ([] : List Int), (0 : Int), (0 : Int), (0 : Int), (0 : Int), (0 : Int), ([] : List Int), false, (0 : Int), ([] : List e0)))))
                  else
                    some ((.inl (x282, x283, x284, x309, x310, x311, x288, x289, x290, x291, x292, x293, x294, x295, x296, x297, x298, x299, x307.1, x307.2.1, x307.2.2.1, x303, x304, x305, x306)))
                | (.inr (.inl (x312, x313, x314, x315, x316, x317, x318, x319, x320, x321, x322, x323, x324, x325, x326, x327, x328, x329, x330, x331, x332, x333))) =>
                  some ((.inr (.inl (x312, x313, x314, x315, x316, x317, x318, x319, x320, x321, x322, x323, x324, x325, x326, x327, x328, x329, x330, x331, x332, x333))))
                | (.inr (.inr (x334, x335, x336, x337, x338, x339, x340, x341, x342, x343, x344, x345, x346, x347, x348, x349, x350, x351, x352, x353, x354, x355, x356, x357, x358))) =>
                  some ((.inl (x334, x335, x336, x337, x338, x339, x340, x341, x342, x343, x344, x345, x346, x347, x348, x349, x350, x351, x352, x353, x354, x355, x356, x357, x358)))) fun o => match o with
              | (.inl (x359, x360, x361, x362, x363, x364, x365, x366, x367, x368, x369, x370, x371, x372, x373, x374, x375, x376, x377, x378, x379, x380, x381, x382, x383)) =>
                Option.bind (α := (Int × Int × Int × (List Int) × Int × Int × Int × Int × Int × Int × Int × (List Int) × Bool × Int × (List e0) × Int × Int × Int × Int × Int × (List Int) × Bool × Int × (List e0) × (List Int))) (
                  if (x374 == ((2 : Int))) = true then
                    some ((x359, x360, x361, x362, x363, x364, x365, x366, x367, x368, x369, x370, x371, x372, x373, x374, x375, x360, x377, x378, x379, x380, x381, x382, x383))
                  else
                    some ((x359, x360, x361, x362, x363, x364, x365, x366, x367, x368, x369, x370, x371, x372, x373, x374, x375, x376, x377, x378, x379, x380, x381, x382, x383))) fun (x384, x385, x386, x387, x388, x389, x390, x391, x392, x393, x394, x395, x396, x397, x398, x399, x400, x401, x402, x403, x404, x405, x406, x407, x408) =>
                (g_section_Take ((x387, x388, x389, x384, x385))).bind fun (x409, x410, x411, x412, x413, x414) =>
                if (x411 != ((0 : Int))) = true then
                  some ((.inr (x411, x412, x413, x414, ([] : List Int), (0 : Int), (0 : Int), (0 : Int), (0 : Int), (0 : Int), ([] : List Int), false, (0 : Int), ([] : List e0))))
                else
                  (g_subframe_restored ((x408, x409, (x399, (x400, (x401, ((x402, (x403, (x404, ()))), ((x410.1, (x410.2.1, (x410.2.2.1, ()))), ()))))), x386))).bind fun (x415, x416) =>
                  if (x416 != ((0 : Int))) = true then
                    some ((.inr (x416, x412, x413, x414, ([] : List Int), (0 : Int), (0 : Int), (0 : Int), (0 : Int), (0 : Int), ([] : List Int), false, (0 : Int), ([] : List e0))))
                  else
                    some ((.inl (x412, x413, x414, x390, x391, x392, x393, x394, x395, x396, x397, x398, x399, x400, x401, x402, x403, x404, x410.1, x410.2.1, x410.2.2.1, x415)))
              | (.inr (.inl (x417, x418, x419, x420, x421, x422, x423, x424, x425, x426, x427, x428, x429, x430, x431, x432, x433, x434, x435, x436, x437, x438))) =>
                some ((.inl (x417, x418, x419, x420, x421, x422, x423, x424, x425, x426, x427, x428, x429, x430, x431, x432, x433, x434, x435, x436, x437, x438)))
              | (.inr (.inr (x439, x440, x441, x442, x443, x444, x445, x446, x447, x448, x449, x450, x451, x452))) =>
                some ((.inr (x439, x440, x441, x442, x443, x444, x445, x446, x447, x448, x449, x450, x451, x452)))) fun o => match o with
            | (.inl (x453, x454, x455, x456, x457, x458, x459, x460, x461, x462, x463, x464, x465, x466, x467, x468, x469, x470, x471, x472, x473, x474)) =>
              Option.bind (α := ((List Int) × Int × Int × Int × Int × Int × Int × Int × (List Int) × Bool × Int × (List e0) × Int × Int × Int × Int × Int × (List Int) × Bool × Int × (List e0) × (List Int))) (
                l_29 ((((List.length x474 : Nat) : Int), (0 : Int), x453, x454, x455, x456, x457, x458, x459, x460, x461, x462, x463, x464, x465, x466, x467, x468, x469, x470, x471, x472, x473, x474))) fun (x550, x551, x552, x553, x554, x555, x556, x557, x558, x559, x560, x561, x562, x563, x564, x565, x566, x567, x568, x569, x570, x571) =>
              some ((x571, (x562, (x563, (x564, ((x565, (x566, (x567, ()))), ((x568, (x569, (x570, ()))), ()))))), (0 : Int), x550, x551, x552))
            | (.inr (x572, x573, x574, x575, x576, x577, x578, x579, x580, x581, x582, x583, x584, x585)) =>
              some ((x576, (x577, (x578, (x579, ((x580, (x581, (x582, ()))), ((x583, (x584, (x585, ()))), ()))))), x572, x573, x574, x575))
noncomputable def f_subframe_Take : G_subframe_Take := F_subframe_Take f_bits_Reader_Fail f_section_Take f_slices_Repeat_sint_int f_subframe_begin f_subframe_linear f_subframe_numbers f_subframe_restored F_subframe_Take_29
def s_subframe_Take : Sig := ⟨[.box [vB, vI, vI], vI, vI], [tB, tI, tI, tI, tI], [⟨.tup [.own tI, .val y9, vI], [.box [vB, vI, vI]], [tL, y9, tI, tB, tI, tI]⟩]⟩
def D_subframe_Take (g_bits_Reader_Fail : G_bits_Reader_Fail) (g_section_Take : G_section_Take) (g_slices_Repeat_sint_int : G_slices_Repeat_sint_int) (g_subframe_begin : G_subframe_begin) (g_subframe_linear : G_subframe_linear) (g_subframe_numbers : G_subframe_numbers) (g_subframe_restored : G_subframe_restored) (l_29 : L_subframe_Take_29) : Desc := ⟨[(26, s_bits_Reader_Fail.sp g_bits_Reader_Fail), (29, s_section_Take.sp g_section_Take), (27, s_slices_Repeat_sint_int.sp g_slices_Repeat_sint_int), (24, s_subframe_begin.sp g_subframe_begin), (28, s_subframe_linear.sp g_subframe_linear), (25, s_subframe_numbers.sp g_subframe_numbers), (30, s_subframe_restored.sp g_subframe_restored)], [0, 1, 2, 3, 4, 5, 6, 8, 9, 10, 11, 12, 13, 14, 15, 16, 17, 18], false, [], [(300001, [⟨.normal, [], [(0, .ptr 0 1 0), (1, vI), (2, vI), (7, .ptr 28672 0 0), (32, vO)], [(0, 1, .box [vB, vI, vI]), (28672, 0, .box [vI, vI, vI, vI, vI, vL, vO, vI, .val (.slice y0)])], [tI, tI, tO, tB, tI, tI, tI, tI, tI, tI, tI, tL, tO, tI, .slice y0]⟩]), (70, [⟨.normal, [], [(0, .ptr 0 1 0), (1, vI), (7, .ptr 28672 0 0), (9, .ptr 36864 0 0), (10, vI), (12, vI), (14, .lref 57344 0), (69, vI)], [(0, 1, .box [vB, vI, vI]), (28672, 0, .box [vI, vI, vI, vI, vI, vL, vO, vI, .val (.slice y0)]), (36864, 0, .box [vI, vI, vI, vI, vI, vL, vO, vI, .val (.slice y0)]), (57344, 0, .own tI)], [tI, tI, tI, tI, tB, tI, tI, tI, tI, tI, tI, tI, tL, tO, tI, Ty.slice y0, tI, tI, tI, tI, tI, tL, tO, tI, Ty.slice y0, tL]⟩, ⟨.exit 1, [], [(1, vI), (7, .ptr 28672 0 0), (9, .ptr 36864 0 0), (14, .lref 57344 0)], [(0, 1, .box [vB, vI, vI]), (28672, 0, .box [vI, vI, vI, vI, vI, vL, vO, vI, .val (.slice y0)]), (36864, 0, .box [vI, vI, vI, vI, vI, vL, vO, vI, .val (.slice y0)]), (57344, 0, .own tI)], [tI, tB, tI, tI, tI, tI, tI, tI, tI, tL, tO, tI, Ty.slice y0, tI, tI, tI, tI, tI, tL, tO, tI, Ty.slice y0, tL]⟩]), (72, [⟨.normal, [], [(0, .ptr 0 1 0), (1, vI), (7, .ptr 28672 0 0), (9, .ptr 36864 0 0), (10, vI), (12, vI), (14, .lref 57344 0), (69, vI)], [(0, 1, .box [vB, vI, vI]), (28672, 0, .box [vI, vI, vI, vI, vI, vL, vO, vI, .val (.slice y0)]), (36864, 0, .box [vI, vI, vI, vI, vI, vL, vO, vI, .val (.slice y0)]), (57344, 0, .own tI)], [tI, tI, tI, tI, tB, tI, tI, tI, tI, tI, tI, tI, tL, tO, tI, Ty.slice y0, tI, tI, tI, tI, tI, tL, tO, tI, Ty.slice y0, tL]⟩, ⟨.exit 2, [], [(0, .ptr 0 1 0), (1, vI), (7, .ptr 28672 0 0), (9, .ptr 36864 0 0), (10, vI), (12, vI), (14, .lref 57344 0)], [(0, 1, .box [vB, vI, vI]), (28672, 0, .box [vI, vI, vI, vI, vI, vL, vO, vI, .val (.slice y0)]), (36864, 0, .box [vI, vI, vI, vI, vI, vL, vO, vI, .val (.slice y0)]), (57344, 0, .own tI)], [tI, tI, tI, tB, tI, tI, tI, tI, tI, tI, tI, tL, tO, tI, Ty.slice y0, tI, tI, tI, tI, tI, tL, tO, tI, Ty.slice y0, tL]⟩]), (74, [⟨.normal, [], [(7, .ptr 28672 0 0), (9, .ptr 36864 0 0), (14, .lref 57344 0)], [(0, 1, .box [vB, vI, vI]), (28672, 0, .box [vI, vI, vI, vI, vI, vL, vO, vI, .val (.slice y0)]), (36864, 0, .box [vI, vI, vI, vI, vI, vL, vO, vI, .val (.slice y0)]), (57344, 0, .own tI)], [tB, tI, tI, tI, tI, tI, tI, tI, tL, tO, tI, Ty.slice y0, tI, tI, tI, tI, tI, tL, tO, tI, Ty.slice y0, tL]⟩, ⟨.exit 3, [], [(0, .ptr 0 1 0), (1, vI), (7, .ptr 28672 0 0), (9, .ptr 36864 0 0), (10, vI), (12, vI), (14, .lref 57344 0)], [(0, 1, .box [vB, vI, vI]), (28672, 0, .box [vI, vI, vI, vI, vI, vL, vO, vI, .val (.slice y0)]), (36864, 0, .box [vI, vI, vI, vI, vI, vL, vO, vI, .val (.slice y0)]), (57344, 0, .own tI)], [tI, tI, tI, tB, tI, tI, tI, tI, tI, tI, tI, tL, tO, tI, Ty.slice y0, tI, tI, tI, tI, tI, tL, tO, tI, Ty.slice y0, tL]⟩]), (200001, [⟨.normal, [], [(1, vI), (7, .ptr 28672 0 0), (9, .ptr 36864 0 0), (14, .lref 57344 0)], [(0, 1, .box [vB, vI, vI]), (28672, 0, .box [vI, vI, vI, vI, vI, vL, vO, vI, .val (.slice y0)]), (36864, 0, .box [vI, vI, vI, vI, vI, vL, vO, vI, .val (.slice y0)]), (57344, 0, .own tI)], [tI, tB, tI, tI, tI, tI, tI, tI, tI, tL, tO, tI, Ty.slice y0, tI, tI, tI, tI, tI, tL, tO, tI, Ty.slice y0, tL]⟩, ⟨.exit 0, [], [(7, .ptr 28672 0 0), (9, .ptr 36864 0 0), (14, .lref 57344 0)], [(0, 1, .box [vB, vI, vI]), (28672, 0, .box [vI, vI, vI, vI, vI, vL, vO, vI, .val (.slice y0)]), (36864, 0, .box [vI, vI, vI, vI, vI, vL, vO, vI, .val (.slice y0)]), (57344, 0, .own tI)], [tB, tI, tI, tI, tI, tI, tI, tI, tL, tO, tI, Ty.slice y0, tI, tI, tI, tI, tI, tL, tO, tI, Ty.slice y0, tL]⟩, ⟨.exit 3, [], [(0, .ptr 0 1 0), (1, vI), (7, .ptr 28672 0 0), (9, .ptr 36864 0 0), (10, vI), (12, vI), (14, .lref 57344 0)], [(0, 1, .box [vB, vI, vI]), (28672, 0, .box [vI, vI, vI, vI, vI, vL, vO, vI, .val (.slice y0)]), (36864, 0, .box [vI, vI, vI, vI, vI, vL, vO, vI, .val (.slice y0)]), (57344, 0, .own tI)], [tI, tI, tI, tB, tI, tI, tI, tI, tI, tI, tI, tL, tO, tI, Ty.slice y0, tI, tI, tI, tI, tI, tL, tO, tI, Ty.slice y0, tL]⟩, ⟨.exit 2, [], [(0, .ptr 0 1 0), (1, vI), (7, .ptr 28672 0 0), (9, .ptr 36864 0 0), (10, vI), (12, vI), (14, .lref 57344 0)], [(0, 1, .box [vB, vI, vI]), (28672, 0, .box [vI, vI, vI, vI, vI, vL, vO, vI, .val (.slice y0)]), (36864, 0, .box [vI, vI, vI, vI, vI, vL, vO, vI, .val (.slice y0)]), (57344, 0, .own tI)], [tI, tI, tI, tB, tI, tI, tI, tI, tI, tI, tI, tL, tO, tI, Ty.slice y0, tI, tI, tI, tI, tI, tL, tO, tI, Ty.slice y0, tL]⟩]), (200002, [⟨.normal, [], [(0, .ptr 0 1 0), (1, vI), (7, .ptr 28672 0 0), (9, .ptr 36864 0 0), (10, vI), (12, vI), (14, .lref 57344 0)], [(0, 1, .box [vB, vI, vI]), (28672, 0, .box [vI, vI, vI, vI, vI, vL, vO, vI, .val (.slice y0)]), (36864, 0, .box [vI, vI, vI, vI, vI, vL, vO, vI, .val (.slice y0)]), (57344, 0, .own tI)], [tI, tI, tI, tB, tI, tI, tI, tI, tI, tI, tI, tL, tO, tI, Ty.slice y0, tI, tI, tI, tI, tI, tL, tO, tI, Ty.slice y0, tL]⟩, ⟨.exit 0, [], [(7, .ptr 28672 0 0), (9, .ptr 36864 0 0), (14, .lref 57344 0)], [(0, 1, .box [vB, vI, vI]), (28672, 0, .box [vI, vI, vI, vI, vI, vL, vO, vI, .val (.slice y0)]), (36864, 0, .box [vI, vI, vI, vI, vI, vL, vO, vI, .val (.slice y0)]), (57344, 0, .own tI)], [tB, tI, tI, tI, tI, tI, tI, tI, tL, tO, tI, Ty.slice y0, tI, tI, tI, tI, tI, tL, tO, tI, Ty.slice y0, tL]⟩, ⟨.exit 3, [], [(0, .ptr 0 1 0), (1, vI), (7, .ptr 28672 0 0), (9, .ptr 36864 0 0), (10, vI), (12, vI), (14, .lref 57344 0)], [(0, 1, .box [vB, vI, vI]), (28672, 0, .box [vI, vI, vI, vI, vI, vL, vO, vI, .val (.slice y0)]), (36864, 0, .box [vI, vI, vI, vI, vI, vL, vO, vI, .val (.slice y0)]), (57344, 0, .own tI)], [tI, tI, tI, tB, tI, tI, tI, tI, tI, tI, tI, tL, tO, tI, Ty.slice y0, tI, tI, tI, tI, tI, tL, tO, tI, Ty.slice y0, tL]⟩]), (200003, [⟨.normal, [], [(0, .ptr 0 1 0), (1, vI), (7, .ptr 28672 0 0), (9, .ptr 36864 0 0), (10, vI), (12, vI), (14, .lref 57344 0)], [(0, 1, .box [vB, vI, vI]), (28672, 0, .box [vI, vI, vI, vI, vI, vL, vO, vI, .val (.slice y0)]), (36864, 0, .box [vI, vI, vI, vI, vI, vL, vO, vI, .val (.slice y0)]), (57344, 0, .own tI)], [tI, tI, tI, tB, tI, tI, tI, tI, tI, tI, tI, tL, tO, tI, Ty.slice y0, tI, tI, tI, tI, tI, tL, tO, tI, Ty.slice y0, tL]⟩, ⟨.exit 0, [], [(7, .ptr 28672 0 0), (9, .ptr 36864 0 0), (14, .lref 57344 0)], [(0, 1, .box [vB, vI, vI]), (28672, 0, .box [vI, vI, vI, vI, vI, vL, vO, vI, .val (.slice y0)]), (36864, 0, .box [vI, vI, vI, vI, vI, vL, vO, vI, .val (.slice y0)]), (57344, 0, .own tI)], [tB, tI, tI, tI, tI, tI, tI, tI, tL, tO, tI, Ty.slice y0, tI, tI, tI, tI, tI, tL, tO, tI, Ty.slice y0, tL]⟩, ⟨.ret, [], [(6, .lref 24576 0), (7, .ptr 28672 0 0), (8, vI)], [(0, 1, .box [vB, vI, vI]), (24576, 0, .own tI), (28672, 0, .box [vI, vI, vI, vI, vI, vL, vO, vI, .val (.slice y0)])], [tI, tB, tI, tI, tL, tI, tI, tI, tI, tI, tL, tO, tI, .slice y0]⟩]), (20000092, [⟨.normal, [], [(0, .ptr 0 1 0), (1, vI), (7, .ptr 28672 0 0), (9, .ptr 36864 0 0), (10, vI), (12, vI), (14, .lref 57344 0)], [(0, 1, .box [vB, vI, vI]), (28672, 0, .box [vI, vI, vI, vI, vI, vL, vO, vI, .val (.slice y0)]), (36864, 0, .box [vI, vI, vI, vI, vI, vL, vO, vI, .val (.slice y0)]), (57344, 0, .own tI)], [tI, tI, tI, tB, tI, tI, tI, tI, tI, tI, tI, tL, tO, tI, Ty.slice y0, tI, tI, tI, tI, tI, tL, tO, tI, Ty.slice y0, tL]⟩]), (200000, [⟨.normal, [], [(7, .ptr 28672 0 0), (9, .ptr 36864 0 0), (14, .lref 57344 0)], [(0, 1, .box [vB, vI, vI]), (28672, 0, .box [vI, vI, vI, vI, vI, vL, vO, vI, .val (.slice y0)]), (36864, 0, .box [vI, vI, vI, vI, vI, vL, vO, vI, .val (.slice y0)]), (57344, 0, .own tI)], [tB, tI, tI, tI, tI, tI, tI, tI, tL, tO, tI, Ty.slice y0, tI, tI, tI, tI, tI, tL, tO, tI, Ty.slice y0, tL]⟩, ⟨.ret, [], [(6, .lref 24576 0), (7, .ptr 28672 0 0), (8, vI)], [(0, 1, .box [vB, vI, vI]), (24576, 0, .own tI), (28672, 0, .box [vI, vI, vI, vI, vI, vL, vO, vI, .val (.slice y0)])], [tI, tB, tI, tI, tL, tI, tI, tI, tI, tI, tL, tO, tI, .slice y0]⟩]), (124, [⟨.normal, [], [(7, .ptr 28672 0 0), (9, .ptr 36864 0 0), (14, .lref 57344 0), (122, vI), (123, vI)], [(0, 1, .box [vB, vI, vI]), (28672, 0, .box [vI, vI, vI, vI, vI, vL, vO, vI, .val (.slice y0)]), (36864, 0, .box [vI, vI, vI, vI, vI, vL, vO, vI, .val (.slice y0)]), (57344, 0, .own tI)], [tI, tI, tB, tI, tI, tI, tI, tI, tI, tI, tL, tO, tI, Ty.slice y0, tI, tI, tI, tI, tI, tL, tO, tI, Ty.slice y0, tL]⟩, ⟨.exit 4, [], [(7, .ptr 28672 0 0), (9, .ptr 36864 0 0), (14, .lref 57344 0)], [(0, 1, .box [vB, vI, vI]), (28672, 0, .box [vI, vI, vI, vI, vI, vL, vO, vI, .val (.slice y0)]), (36864, 0, .box [vI, vI, vI, vI, vI, vL, vO, vI, .val (.slice y0)]), (57344, 0, .own tI)], [tB, tI, tI, tI, tI, tI, tI, tI, tL, tO, tI, Ty.slice y0, tI, tI, tI, tI, tI, tL, tO, tI, Ty.slice y0, tL]⟩])], [(29, S_subframe_Take_29 l_29)], [false, false, false]⟩
theorem q_subframe_Take (g_bits_Reader_Fail : G_bits_Reader_Fail) (g_section_Take : G_section_Take) (g_slices_Repeat_sint_int : G_slices_Repeat_sint_int) (g_subframe_begin : G_subframe_begin) (g_subframe_linear : G_subframe_linear) (g_subframe_numbers : G_subframe_numbers) (g_subframe_restored : G_subframe_restored) (l_29 : L_subframe_Take_29) : (∀ (k : L_subframe_Take_29) (a475 : Int) (a476 : Int) (a477 : List Int) (a478 : Int) (a479 : Int) (a480 : Int) (a481 : Int) (a482 : Int) (a483 : Int) (a484 : Int) (a485 : List Int) (a486 : Bool) (a487 : Int) (a488 : List e0) (a489 : Int) (a490 : Int) (a491 : Int) (a492 : Int) (a493 : Int) (a494 : List Int) (a495 : Bool) (a496 : Int) (a497 : List e0) (a498 : List Int), (D_subframe_Take g_bits_Reader_Fail g_section_Take g_slices_Repeat_sint_int g_subframe_begin g_subframe_linear g_subframe_numbers g_subframe_restored l_29).step Proofs.Try.prog Proofs.Try.f9 29 (S_subframe_Take_29 l_29) k (a475, a476, a477, a478, a479, a480, a481, a482, a483, a484, a485, a486, a487, a488, a489, a490, a491, a492, a493, a494, a495, a496, a497, a498) = B_subframe_Take_29 k (a475, a476, a477, a478, a479, a480, a481, a482, a483, a484, a485, a486, a487, a488, a489, a490, a491, a492, a493, a494, a495, a496, a497, a498)) ∧ (∀ (p1 : List Int) (p2 : Int) (p3 : Int) (p4 : Int) (p5 : Int), (D_subframe_Take g_bits_Reader_Fail g_section_Take g_slices_Repeat_sint_int g_subframe_begin g_subframe_linear g_subframe_numbers g_subframe_restored l_29).body Proofs.Try.prog Proofs.Try.f9 s_subframe_Take (p1, p2, p3, p4, p5) = F_subframe_Take g_bits_Reader_Fail g_section_Take g_slices_Repeat_sint_int g_subframe_begin g_subframe_linear g_subframe_numbers g_subframe_restored l_29 (p1, p2, p3, p4, p5)) := ⟨fun k a475 a476 a477 a478 a479 a480 a481 a482 a483 a484 a485 a486 a487 a488 a489 a490 a491 a492 a493 a494 a495 a496 a497 a498 => by kernel_rfl, fun p1 p2 p3 p4 p5 => by kernel_rfl⟩
theorem k_subframe_Take : Known Proofs.Try.prog 9 (s_subframe_Take.sp f_subframe_Take) :=
  known_of (D := D_subframe_Take f_bits_Reader_Fail f_section_Take f_slices_Repeat_sint_int f_subframe_begin f_subframe_linear f_subframe_numbers f_subframe_restored F_subframe_Take_29) mixed Proofs.Try.func9 (by kernel_rfl) (by kernel_rfl) ⟨k_bits_Reader_Fail, k_section_Take, k_slices_Repeat_sint_int, k_subframe_begin, k_subframe_linear, k_subframe_numbers, k_subframe_restored, trivial⟩ ⟨fact_of fun k x => (q_subframe_Take f_bits_Reader_Fail f_section_Take f_slices_Repeat_sint_int f_subframe_begin f_subframe_linear f_subframe_numbers f_subframe_restored F_subframe_Take_29).1 k x.1 x.2.1 x.2.2.1 x.2.2.2.1 x.2.2.2.2.1 x.2.2.2.2.2.1 x.2.2.2.2.2.2.1 x.2.2.2.2.2.2.2.1 x.2.2.2.2.2.2.2.2.1 x.2.2.2.2.2.2.2.2.2.1 x.2.2.2.2.2.2.2.2.2.2.1 x.2.2.2.2.2.2.2.2.2.2.2.1 x.2.2.2.2.2.2.2.2.2.2.2.2.1 x.2.2.2.2.2.2.2.2.2.2.2.2.2.1 x.2.2.2.2.2.2.2.2.2.2.2.2.2.2.1 x.2.2.2.2.2.2.2.2.2.2.2.2.2.2.2.1 x.2.2.2.2.2.2.2.2.2.2.2.2.2.2.2.2.1 x.2.2.2.2.2.2.2.2.2.2.2.2.2.2.2.2.2.1 x.2.2.2.2.2.2.2.2.2.2.2.2.2.2.2.2.2.2.1 x.2.2.2.2.2.2.2.2.2.2.2.2.2.2.2.2.2.2.2.1 x.2.2.2.2.2.2.2.2.2.2.2.2.2.2.2.2.2.2.2.2.1 x.2.2.2.2.2.2.2.2.2.2.2.2.2.2.2.2.2.2.2.2.2.1 x.2.2.2.2.2.2.2.2.2.2.2.2.2.2.2.2.2.2.2.2.2.2.1 x.2.2.2.2.2.2.2.2.2.2.2.2.2.2.2.2.2.2.2.2.2.2.2, trivial⟩ fun x => (q_subframe_Take f_bits_Reader_Fail f_section_Take f_slices_Repeat_sint_int f_subframe_begin f_subframe_linear f_subframe_numbers f_subframe_restored F_subframe_Take_29).2 x.1 x.2.1 x.2.2.1 x.2.2.2.1 x.2.2.2.2

/-! serinette/serinetteref01.Number -/
abbrev G_ref01_Number := List Bool → Option (Int)
abbrev L_ref01_Number_3 := (List Bool) × Int × Int → Option (Int)
def B_ref01_Number_3 (again : L_ref01_Number_3) : L_ref01_Number_3
  | (a2, a3, a4) =>
    Option.bind (α := ((List Bool) × Int × Int) ⊕ Int) (
      if (decide (a4 < (((List.length a2 : Nat) : Int)))) = true then
        some ((.inl (a2, a3, a4)))
      else
        some ((.inr a3))) fun o => match o with
      | (.inl (x5, x6, x7)) =>
        (idx x5 x7).bind fun x8 =>
        Option.bind (α := ((List Bool) × Int × Int)) (
          if x8 = true then
            some ((x5, (addI .u64 ((mulI .u64 ((2 : Int)) x6)) ((1 : Int))), x7))
          else
            some ((x5, (mulI .u64 ((2 : Int)) x6), x7))) fun (x9, x10, x11) =>
        again ((x9, x10, (addI .i64 x11 ((1 : Int)))))
      | (.inr x12) =>
        some x12
noncomputable def F_ref01_Number_3 : L_ref01_Number_3 := lfp B_ref01_Number_3
abbrev S_ref01_Number_3 (l : L_ref01_Number_3) : LoopS := ⟨⟨.normal, [], [(0, .val (.slice tO)), (3, .val tU64), (4, vI)], [], [.slice tO, tU64, tI]⟩, [⟨.exit 0, [], [(3, .val tU64)], [], [tU64]⟩], l⟩
def F_ref01_Number (l_3 : L_ref01_Number_3) : G_ref01_Number
  | p1 =>
    Option.bind (α := Int) (
      l_3 ((p1, (0 : Int), (0 : Int)))) fun x13 =>
    some x13
noncomputable def f_ref01_Number : G_ref01_Number := F_ref01_Number F_ref01_Number_3
def s_ref01_Number : Sig := ⟨[.val (.slice tO)], [.slice tO], [⟨.val tU64, [], [tU64]⟩]⟩
def D_ref01_Number (l_3 : L_ref01_Number_3) : Desc := ⟨[], [0, 1, 2, 3, 4], false, [], [(8, [⟨.normal, [], [(0, .val (.slice tO)), (3, .val tU64), (4, vI)], [], [.slice tO, tU64, tI]⟩, ⟨.exit 0, [], [(3, .val tU64)], [], [tU64]⟩]), (7000016, [⟨.normal, [], [(0, .val (.slice tO)), (3, .val tU64), (4, vI)], [], [.slice tO, tU64, tI]⟩])], [(3, S_ref01_Number_3 l_3)], [false]⟩
theorem q_ref01_Number (l_3 : L_ref01_Number_3) : (∀ (k : L_ref01_Number_3) (a2 : List Bool) (a3 : Int) (a4 : Int), (D_ref01_Number l_3).step Proofs.Try.prog Proofs.Try.f67 3 (S_ref01_Number_3 l_3) k (a2, a3, a4) = B_ref01_Number_3 k (a2, a3, a4)) ∧ (∀ (p1 : List Bool), (D_ref01_Number l_3).body Proofs.Try.prog Proofs.Try.f67 s_ref01_Number p1 = F_ref01_Number l_3 p1) := ⟨fun k a2 a3 a4 => by kernel_rfl, fun p1 => by kernel_rfl⟩
theorem k_ref01_Number : Known Proofs.Try.prog 67 (s_ref01_Number.sp f_ref01_Number) :=
  known_of (D := D_ref01_Number F_ref01_Number_3) mixed Proofs.Try.func67 (by kernel_rfl) (by kernel_rfl) trivial ⟨fact_of fun k x => (q_ref01_Number F_ref01_Number_3).1 k x.1 x.2.1 x.2.2, trivial⟩ fun x => (q_ref01_Number F_ref01_Number_3).2 x

/-! (*serinette/serinetteref01.Reader).Take -/
abbrev G_ref01_Reader_Take := (List Bool) × Int × Int × Int → Option ((Int × (List Bool) × Int × Int))
def F_ref01_Reader_Take (g_ref01_Number : G_ref01_Number) (g_ref01_Width : G_ref01_Width) : G_ref01_Reader_Take
  | (p1, p2, p3, p4) =>
    (g_ref01_Width p4).bind fun x5 =>
    if (p3 != ((0 : Int))) = true then
      some (((0 : Int), p1, p2, p3))
    else
      if (decide (x5 > ((subI .i64 (((List.length p1 : Nat) : Int)) p2)))) = true then
        some (((0 : Int), p1, p2, (2 : Int)))
      else
        (rng (List.length p1) ((subI .i64 ((addI .i64 p2 x5)) x5)) ((addI .i64 p2 x5))).bind fun x6 =>
        (g_ref01_Number ((view p1 (some x6)))).bind fun x7 =>
        some ((x7, p1, (addI .i64 p2 x5), p3))
noncomputable def f_ref01_Reader_Take : G_ref01_Reader_Take := F_ref01_Reader_Take f_ref01_Number f_ref01_Width
def s_ref01_Reader_Take : Sig := ⟨[.box [.val (.slice tO), vI, vI], vI], [.slice tO, tI, tI, tI], [⟨.val tU64, [.box [.val (.slice tO), vI, vI]], [tU64, .slice tO, tI, tI]⟩]⟩
def D_ref01_Reader_Take (g_ref01_Number : G_ref01_Number) (g_ref01_Width : G_ref01_Width) : Desc := ⟨[(67, s_ref01_Number.sp g_ref01_Number), (56, s_ref01_Width.sp g_ref01_Width)], [0, 1, 2, 3, 4, 5], false, [], [], [], [false]⟩
theorem q_ref01_Reader_Take (g_ref01_Number : G_ref01_Number) (g_ref01_Width : G_ref01_Width) : ∀ (p1 : List Bool) (p2 : Int) (p3 : Int) (p4 : Int), (D_ref01_Reader_Take g_ref01_Number g_ref01_Width).body Proofs.Try.prog Proofs.Try.f31 s_ref01_Reader_Take (p1, p2, p3, p4) = F_ref01_Reader_Take g_ref01_Number g_ref01_Width (p1, p2, p3, p4) := fun p1 p2 p3 p4 => by kernel_rfl
theorem k_ref01_Reader_Take : Known Proofs.Try.prog 31 (s_ref01_Reader_Take.sp f_ref01_Reader_Take) :=
  known_of (D := D_ref01_Reader_Take f_ref01_Number f_ref01_Width) mixed Proofs.Try.func31 (by kernel_rfl) (by kernel_rfl) ⟨k_ref01_Number, k_ref01_Width, trivial⟩ trivial fun x => (q_ref01_Reader_Take f_ref01_Number f_ref01_Width) x.1 x.2.1 x.2.2.1 x.2.2.2

/-! serinette/serinetteref06.Power -/
abbrev G_ref06_Power := Int → Option (Int)
abbrev L_ref06_Power_3 := Int × Int × Int → Option (Int)
def B_ref06_Power_3 (again : L_ref06_Power_3) : L_ref06_Power_3
  | (a2, a3, a4) =>
    Option.bind (α := (Int × Int × Int) ⊕ Int) (
      if (decide (a4 < a2)) = true then
        some ((.inl (a2, a3, a4)))
      else
        some ((.inr a3))) fun o => match o with
      | (.inl (x5, x6, x7)) =>
        again ((x5, (mulI .i64 ((2 : Int)) x6), (addI .i64 x7 ((1 : Int)))))
      | (.inr x8) =>
        some x8
noncomputable def F_ref06_Power_3 : L_ref06_Power_3 := lfp B_ref06_Power_3
abbrev S_ref06_Power_3 (l : L_ref06_Power_3) : LoopS := ⟨⟨.normal, [], [(0, vI), (3, vI), (4, vI)], [], [tI, tI, tI]⟩, [⟨.exit 0, [], [(3, vI)], [], [tI]⟩], l⟩
def F_ref06_Power (l_3 : L_ref06_Power_3) : G_ref06_Power
  | p1 =>
    Option.bind (α := Int) (
      l_3 ((p1, (1 : Int), (0 : Int)))) fun x9 =>
    some x9
noncomputable def f_ref06_Power : G_ref06_Power := F_ref06_Power F_ref06_Power_3
def s_ref06_Power : Sig := ⟨[vI], [tI], [⟨vI, [], [tI]⟩]⟩
def D_ref06_Power (l_3 : L_ref06_Power_3) : Desc := ⟨[], [0, 1, 2, 3, 4], false, [], [(7, [⟨.normal, [], [(0, vI), (3, vI), (4, vI)], [], [tI, tI, tI]⟩, ⟨.exit 0, [], [(3, vI)], [], [tI]⟩])], [(3, S_ref06_Power_3 l_3)], [false]⟩
theorem q_ref06_Power (l_3 : L_ref06_Power_3) : (∀ (k : L_ref06_Power_3) (a2 : Int) (a3 : Int) (a4 : Int), (D_ref06_Power l_3).step Proofs.Try.prog Proofs.Try.f37 3 (S_ref06_Power_3 l_3) k (a2, a3, a4) = B_ref06_Power_3 k (a2, a3, a4)) ∧ (∀ (p1 : Int), (D_ref06_Power l_3).body Proofs.Try.prog Proofs.Try.f37 s_ref06_Power p1 = F_ref06_Power l_3 p1) := ⟨fun k a2 a3 a4 => by kernel_rfl, fun p1 => by kernel_rfl⟩
theorem k_ref06_Power : Known Proofs.Try.prog 37 (s_ref06_Power.sp f_ref06_Power) :=
  known_of (D := D_ref06_Power F_ref06_Power_3) mixed Proofs.Try.func37 (by kernel_rfl) (by kernel_rfl) trivial ⟨fact_of fun k x => (q_ref06_Power F_ref06_Power_3).1 k x.1 x.2.1 x.2.2, trivial⟩ fun x => (q_ref06_Power F_ref06_Power_3).2 x

/-! serinette/serinetteref15.Signed -/
abbrev G_ref15_Signed := Int × Int → Option (Int)
def F_ref15_Signed (g_ref06_Power : G_ref06_Power) : G_ref15_Signed
  | (p1, p2) =>
    if (p2 == ((0 : Int))) = true then
      some ((0 : Int))
    else
      (g_ref06_Power ((subI .i64 p2 ((1 : Int))))).bind fun x3 =>
      Option.bind (α := Int) (
        if (decide (((IntKind.wrap .i64 p1)) ≥ x3)) = true then
          (g_ref06_Power p2).bind fun x4 =>
          some ((subI .i64 ((IntKind.wrap .i64 p1)) x4))
        else
          some ((IntKind.wrap .i64 p1))) fun x5 =>
      some x5
noncomputable def f_ref15_Signed : G_ref15_Signed := F_ref15_Signed f_ref06_Power
def s_ref15_Signed : Sig := ⟨[.val tU64, vI], [tU64, tI], [⟨vI, [], [tI]⟩]⟩
def D_ref15_Signed (g_ref06_Power : G_ref06_Power) : Desc := ⟨[(37, s_ref06_Power.sp g_ref06_Power)], [0, 1, 2, 3, 4, 5], false, [], [(5000014, [⟨.normal, [], [(5, vI)], [], [tI]⟩])], [], [false]⟩
theorem q_ref15_Signed (g_ref06_Power : G_ref06_Power) : ∀ (p1 : Int) (p2 : Int), (D_ref15_Signed g_ref06_Power).body Proofs.Try.prog Proofs.Try.f32 s_ref15_Signed (p1, p2) = F_ref15_Signed g_ref06_Power (p1, p2) := fun p1 p2 => by kernel_rfl
theorem k_ref15_Signed : Known Proofs.Try.prog 32 (s_ref15_Signed.sp f_ref15_Signed) :=
  known_of (D := D_ref15_Signed f_ref06_Power) mixed Proofs.Try.func32 (by kernel_rfl) (by kernel_rfl) ⟨k_ref06_Power, trivial⟩ trivial fun x => (q_ref15_Signed f_ref06_Power) x.1 x.2

/-! serinette/serinetteref14.Cuts -/
abbrev G_ref14_Cuts := Int × Int × Int → Option ((List Int))
abbrev L_ref14_Cuts_8 := Int × Int × (List Int) → Option ((List Int))
def B_ref14_Cuts_8 (again : L_ref14_Cuts_8) : L_ref14_Cuts_8
  | (a16, a17, a18) =>
    Option.bind (α := (Int × Int × (List Int)) ⊕ (List Int)) (
      if (decide ((((List.length a18 : Nat) : Int)) < a17)) = true then
        some ((.inl (a16, a17, a18)))
      else
        some ((.inr a18))) fun o => match o with
      | (.inl (x19, x20, x21)) =>
        (quoI .i64 x19 x20).bind fun x22 =>
        (room (List.length x21 + List.length ((List.set (List.replicate 1 (0 : Int)) 0 x22)))).bind fun x23 =>
        again ((x19, x20, (x21 ++ (List.set (List.replicate 1 (0 : Int)) 0 x22))))
      | (.inr x24) =>
        some x24
noncomputable def F_ref14_Cuts_8 : L_ref14_Cuts_8 := lfp B_ref14_Cuts_8
abbrev S_ref14_Cuts_8 (l : L_ref14_Cuts_8) : LoopS := ⟨⟨.normal, [], [(7, vI), (8, vI), (9, .lref 36864 0)], [(36864, 0, .own tI)], [tI, tI, tL]⟩, [⟨.exit 0, [], [(9, .lref 36864 0)], [(36864, 0, .own tI)], [tL]⟩], l⟩
def F_ref14_Cuts (g_ref06_Power : G_ref06_Power) (l_8 : L_ref14_Cuts_8) : G_ref14_Cuts
  | (p1, p2, p3) =>
    Option.bind (α := (Int × Int × Int × Bool)) (
      if (decide (p1 < ((0 : Int)))) = true then
        some ((p1, p2, p3, true))
      else
        if (decide (p2 < ((0 : Int)))) = true then
          some ((p1, p2, p3, true))
        else
          if (decide (p3 < ((0 : Int)))) = true then
            some ((p1, p2, p3, true))
          else
            some ((p1, p2, p3, (decide (p3 > ((15 : Int))))))) fun (x4, x5, x6, x7) =>
    if x7 = true then
      some (([] : List Int))
    else
      (g_ref06_Power x6).bind fun x8 =>
      Option.bind (α := (Int × Int × Int × Bool)) (
        (remI ((addI .i64 x4 x5)) x8).bind fun x9 =>
        if (x9 != ((0 : Int))) = true then
          some ((x5, (addI .i64 x4 x5), x8, true))
        else
          (quoI .i64 ((addI .i64 x4 x5)) x8).bind fun x10 =>
          some ((x5, (addI .i64 x4 x5), x8, (decide (x10 ≤ x5))))) fun (x11, x12, x13, x14) =>
      if x14 = true then
        some (([] : List Int))
      else
        (quoI .i64 x12 x13).bind fun x15 =>
        Option.bind (α := (List Int)) (
          l_8 ((x12, x13, (List.set (List.replicate 1 (0 : Int)) 0 ((subI .i64 x15 x11)))))) fun x25 =>
        some x25
noncomputable def f_ref14_Cuts : G_ref14_Cuts := F_ref14_Cuts f_ref06_Power F_ref14_Cuts_8
def s_ref14_Cuts : Sig := ⟨[vI, vI, vI], [tI, tI, tI], [⟨.own tI, [], [tL]⟩]⟩
def D_ref14_Cuts (g_ref06_Power : G_ref06_Power) (l_8 : L_ref14_Cuts_8) : Desc := ⟨[(37, s_ref06_Power.sp g_ref06_Power)], [0, 1, 2, 3, 4, 5, 6, 7, 8, 9], false, [], [(300001, [⟨.normal, [], [(0, vI), (1, vI), (2, vI), (23, vO)], [], [tI, tI, tI, tO]⟩]), (300005, [⟨.normal, [], [(1, vI), (7, vI), (8, vI), (39, vO)], [], [tI, tI, tI, tO]⟩]), (49, [⟨.normal, [], [(7, vI), (8, vI), (9, .lref 36864 0)], [(36864, 0, .own tI)], [tI, tI, tL]⟩, ⟨.exit 0, [], [(9, .lref 36864 0)], [(36864, 0, .own tI)], [tL]⟩])], [(8, S_ref14_Cuts_8 l_8)], [false]⟩
theorem q_ref14_Cuts (g_ref06_Power : G_ref06_Power) (l_8 : L_ref14_Cuts_8) : (∀ (k : L_ref14_Cuts_8) (a16 : Int) (a17 : Int) (a18 : List Int), (D_ref14_Cuts g_ref06_Power l_8).step Proofs.Try.prog Proofs.Try.f41 8 (S_ref14_Cuts_8 l_8) k (a16, a17, a18) = B_ref14_Cuts_8 k (a16, a17, a18)) ∧ (∀ (p1 : Int) (p2 : Int) (p3 : Int), (D_ref14_Cuts g_ref06_Power l_8).body Proofs.Try.prog Proofs.Try.f41 s_ref14_Cuts (p1, p2, p3) = F_ref14_Cuts g_ref06_Power l_8 (p1, p2, p3)) := ⟨fun k a16 a17 a18 => by kernel_rfl, fun p1 p2 p3 => by kernel_rfl⟩
theorem k_ref14_Cuts : Known Proofs.Try.prog 41 (s_ref14_Cuts.sp f_ref14_Cuts) :=
  known_of (D := D_ref14_Cuts f_ref06_Power F_ref14_Cuts_8) mixed Proofs.Try.func41 (by kernel_rfl) (by kernel_rfl) ⟨k_ref06_Power, trivial⟩ ⟨fact_of fun k x => (q_ref14_Cuts f_ref06_Power F_ref14_Cuts_8).1 k x.1 x.2.1 x.2.2, trivial⟩ fun x => (q_ref14_Cuts f_ref06_Power F_ref14_Cuts_8).2 x.1 x.2.1 x.2.2

/-! serinette/serinetteref02.K -/
abbrev G_ref02_K := Int → Option (Int)
def F_ref02_K : G_ref02_K
  | p1 =>
    some ((maxI ((0 : Int)) ((minI p1 ((30 : Int))))))
noncomputable def f_ref02_K : G_ref02_K := F_ref02_K
def s_ref02_K : Sig := ⟨[vI], [tI], [⟨vI, [], [tI]⟩]⟩
def D_ref02_K : Desc := ⟨[], [0, 1, 2], false, [], [], [], [false]⟩
theorem q_ref02_K : ∀ (p1 : Int), D_ref02_K.body Proofs.Try.prog Proofs.Try.f93 s_ref02_K p1 = F_ref02_K p1 := fun p1 => by kernel_rfl
theorem k_ref02_K : Known Proofs.Try.prog 93 (s_ref02_K.sp f_ref02_K) :=
  known_of (D := D_ref02_K) mixed Proofs.Try.func93 (by kernel_rfl) (by kernel_rfl) trivial trivial fun x => q_ref02_K x

/-! serinette/serinetteref02.Unfold -/
abbrev G_ref02_Unfold := Int → Option (Int)
def F_ref02_Unfold : G_ref02_Unfold
  | p1 =>
    (remI p1 ((2 : Int))).bind fun x2 =>
    if (x2 == ((0 : Int))) = true then
      (quoI .u64 p1 ((2 : Int))).bind fun x3 =>
      some ((IntKind.wrap .i64 x3))
    else
      (quoI .u64 p1 ((2 : Int))).bind fun x4 =>
      some ((subI .i64 ((subI .i64 0 ((IntKind.wrap .i64 x4)))) ((1 : Int))))
noncomputable def f_ref02_Unfold : G_ref02_Unfold := F_ref02_Unfold
def s_ref02_Unfold : Sig := ⟨[.val tU64], [tU64], [⟨vI, [], [tI]⟩]⟩
def D_ref02_Unfold : Desc := ⟨[], [0, 1, 2], false, [], [], [], [false]⟩
theorem q_ref02_Unfold : ∀ (p1 : Int), D_ref02_Unfold.body Proofs.Try.prog Proofs.Try.f94 s_ref02_Unfold p1 = F_ref02_Unfold p1 := fun p1 => by kernel_rfl
theorem k_ref02_Unfold : Known Proofs.Try.prog 94 (s_ref02_Unfold.sp f_ref02_Unfold) :=
  known_of (D := D_ref02_Unfold) mixed Proofs.Try.func94 (by kernel_rfl) (by kernel_rfl) trivial trivial fun x => q_ref02_Unfold x

/-! serinette/serinetteref02.Take -/
abbrev G_ref02_Take := (List Bool) × Int × Int × Int → Option ((Int × (List Bool) × Int × Int))
abbrev L_ref02_Take_2 := Int × Int × (List Bool) × Int × Int → Option ((Int × Int × (List Bool) × Int × Int) ⊕ (Int × (List Bool) × Int × Int))
def B_ref02_Take_2 (g_ref01_Reader_Take : G_ref01_Reader_Take) (again : L_ref02_Take_2) : L_ref02_Take_2
  | (a5, a6, a7, a8, a9) =>
    Option.bind (α := (Int × Int × (List Bool) × Int × Int) ⊕ (Int × Int × (List Bool) × Int × Int) ⊕ (Int × (List Bool) × Int × Int)) (
      (g_ref01_Reader_Take ((a7, a8, a9, (1 : Int)))).bind fun (x10, x11, x12, x13) =>
      if (x13 != ((0 : Int))) = true then
        some ((.inr (.inr ((0 : Int), x11, x12, x13))))
      else
        Option.bind (α := (Int × Int × (List Bool) × Int × Int) ⊕ (Int × Int × (List Bool) × Int × Int)) (
          if (x10 == ((1 : Int))) = true then
            some ((.inr (a5, a6, x11, x12, x13)))
          else
            some ((.inl (a5, a6, x11, x12, x13)))) fun o => match o with
          | (.inl (x14, x15, x16, x17, x18)) =>
            some ((.inl (x14, (addI .u64 x15 ((1 : Int))), x16, x17, x18)))
          | (.inr (x19, x20, x21, x22, x23)) =>
            some ((.inr (.inl (x19, x20, x21, x22, x23))))) fun o => match o with
      | (.inl (x24, x25, x26, x27, x28)) =>
        again ((x24, x25, x26, x27, x28))
      | (.inr (.inl (x29, x30, x31, x32, x33))) =>
        some ((.inl (x29, x30, x31, x32, x33)))
      | (.inr (.inr (x34, x35, x36, x37))) =>
        some ((.inr (x34, x35, x36, x37)))
noncomputable def F_ref02_Take_2 : L_ref02_Take_2 := lfp (B_ref02_Take_2 f_ref01_Reader_Take)
abbrev S_ref02_Take_2 (l : L_ref02_Take_2) : LoopS := ⟨⟨.normal, [], [(0, .ptr 0 1 0), (1, vI), (5, .val tU64)], [(0, 1, .box [.val (.slice tO), vI, vI])], [tI, tU64, .slice tO, tI, tI]⟩, [⟨.exit 0, [], [(0, .ptr 0 1 0), (1, vI), (5, .val tU64)], [(0, 1, .box [.val (.slice tO), vI, vI])], [tI, tU64, .slice tO, tI, tI]⟩, ⟨.ret, [], [(4, vI)], [(0, 1, .box [.val (.slice tO), vI, vI])], [tI, .slice tO, tI, tI]⟩], l⟩
abbrev L_ref02_Take_12 := Int × Int × Int × Int × Int × (List Bool) × Int × Int → Option ((Int × Int × Int × (List Bool) × Int × Int))
def B_ref02_Take_12 (g_ref02_K : G_ref02_K) (again : L_ref02_Take_12) : L_ref02_Take_12
  | (a52, a53, a54, a55, a56, a57, a58, a59) =>
    (g_ref02_K a52).bind fun x60 =>
    Option.bind (α := (Int × Int × Int × Int × Int × (List Bool) × Int × Int) ⊕ (Int × Int × Int × (List Bool) × Int × Int)) (
      if (decide (a56 < x60)) = true then
        some ((.inl (a52, a53, a54, a55, a56, a57, a58, a59)))
      else
        some ((.inr (a53, a54, a55, a57, a58, a59)))) fun o => match o with
      | (.inl (x61, x62, x63, x64, x65, x66, x67, x68)) =>
        again ((x61, x62, x63, (mulI .u64 ((2 : Int)) x64), (addI .i64 x65 ((1 : Int))), x66, x67, x68))
      | (.inr (x69, x70, x71, x72, x73, x74)) =>
        some ((x69, x70, x71, x72, x73, x74))
noncomputable def F_ref02_Take_12 : L_ref02_Take_12 := lfp (B_ref02_Take_12 f_ref02_K)
abbrev S_ref02_Take_12 (l : L_ref02_Take_12) : LoopS := ⟨⟨.normal, [], [(1, vI), (5, .val tU64), (7, .val tU64), (8, .val tU64), (9, vI)], [(0, 1, .box [.val (.slice tO), vI, vI])], [tI, tU64, tU64, tU64, tI, .slice tO, tI, tI]⟩, [⟨.exit 2, [], [(5, .val tU64), (7, .val tU64), (8, .val tU64)], [(0, 1, .box [.val (.slice tO), vI, vI])], [tU64, tU64, tU64, .slice tO, tI, tI]⟩], l⟩
def F_ref02_Take (g_ref01_Reader_Take : G_ref01_Reader_Take) (g_ref02_K : G_ref02_K) (g_ref02_Unfold : G_ref02_Unfold) (l_2 : L_ref02_Take_2) (l_12 : L_ref02_Take_12) : G_ref02_Take
  | (p1, p2, p3, p4) =>
    Option.bind (α := (Int × Int × (List Bool) × Int × Int) ⊕ (Int × (List Bool) × Int × Int)) (
      l_2 ((p4, (0 : Int), p1, p2, p3))) fun o => match o with
      | (.inl (x38, x39, x40, x41, x42)) =>
        (g_ref02_K x38).bind fun x47 =>
        (g_ref01_Reader_Take ((x40, x41, x42, x47))).bind fun (x48, x49, x50, x51) =>
        if (x51 != ((0 : Int))) = true then
          some (((0 : Int), x49, x50, x51))
        else
          Option.bind (α := (Int × Int × Int × (List Bool) × Int × Int)) (
            l_12 ((x38, x39, x48, (1 : Int), (0 : Int), x49, x50, x51))) fun (x75, x76, x77, x78, x79, x80) =>
          (g_ref02_Unfold ((addI .u64 ((mulI .u64 x75 x77)) x76))).bind fun x81 =>
          some ((x81, x78, x79, x80))
      | (.inr (x43, x44, x45, x46)) =>
        some ((x43, x44, x45, x46))
noncomputable def f_ref02_Take : G_ref02_Take := F_ref02_Take f_ref01_Reader_Take f_ref02_K f_ref02_Unfold F_ref02_Take_2 F_ref02_Take_12
def s_ref02_Take : Sig := ⟨[.box [.val (.slice tO), vI, vI], vI], [.slice tO, tI, tI, tI], [⟨vI, [.box [.val (.slice tO), vI, vI]], [tI, .slice tO, tI, tI]⟩]⟩
def D_ref02_Take (g_ref01_Reader_Take : G_ref01_Reader_Take) (g_ref02_K : G_ref02_K) (g_ref02_Unfold : G_ref02_Unfold) (l_2 : L_ref02_Take_2) (l_12 : L_ref02_Take_12) : Desc := ⟨[(31, s_ref01_Reader_Take.sp g_ref01_Reader_Take), (93, s_ref02_K.sp g_ref02_K), (94, s_ref02_Unfold.sp g_ref02_Unfold)], [0, 1, 2, 3, 4, 5, 6, 7, 8, 9], false, [], [(18, [⟨.normal, [], [(0, .ptr 0 1 0), (1, vI), (5, .val tU64)], [(0, 1, .box [.val (.slice tO), vI, vI])], [tI, tU64, .slice tO, tI, tI]⟩, ⟨.exit 0, [], [(0, .ptr 0 1 0), (1, vI), (5, .val tU64)], [(0, 1, .box [.val (.slice tO), vI, vI])], [tI, tU64, .slice tO, tI, tI]⟩]), (200001, [⟨.normal, [], [(0, .ptr 0 1 0), (1, vI), (5, .val tU64)], [(0, 1, .box [.val (.slice tO), vI, vI])], [tI, tU64, .slice tO, tI, tI]⟩, ⟨.exit 0, [], [(0, .ptr 0 1 0), (1, vI), (5, .val tU64)], [(0, 1, .box [.val (.slice tO), vI, vI])], [tI, tU64, .slice tO, tI, tI]⟩, ⟨.ret, [], [(4, vI)], [(0, 1, .box [.val (.slice tO), vI, vI])], [tI, .slice tO, tI, tI]⟩]), (33, [⟨.normal, [], [(1, vI), (5, .val tU64), (7, .val tU64), (8, .val tU64), (9, vI)], [(0, 1, .box [.val (.slice tO), vI, vI])], [tI, tU64, tU64, tU64, tI, .slice tO, tI, tI]⟩, ⟨.exit 2, [], [(5, .val tU64), (7, .val tU64), (8, .val tU64)], [(0, 1, .box [.val (.slice tO), vI, vI])], [tU64, tU64, tU64, .slice tO, tI, tI]⟩])], [(2, S_ref02_Take_2 l_2), (12, S_ref02_Take_12 l_12)], [false]⟩
theorem q_ref02_Take (g_ref01_Reader_Take : G_ref01_Reader_Take) (g_ref02_K : G_ref02_K) (g_ref02_Unfold : G_ref02_Unfold) (l_2 : L_ref02_Take_2) (l_12 : L_ref02_Take_12) : (∀ (k : L_ref02_Take_2) (a5 : Int) (a6 : Int) (a7 : List Bool) (a8 : Int) (a9 : Int), (D_ref02_Take g_ref01_Reader_Take g_ref02_K g_ref02_Unfold l_2 l_12).step Proofs.Try.prog Proofs.Try.f68 2 (S_ref02_Take_2 l_2) k (a5, a6, a7, a8, a9) = B_ref02_Take_2 g_ref01_Reader_Take k (a5, a6, a7, a8, a9)) ∧ (∀ (k : L_ref02_Take_12) (a52 : Int) (a53 : Int) (a54 : Int) (a55 : Int) (a56 : Int) (a57 : List Bool) (a58 : Int) (a59 : Int), (D_ref02_Take g_ref01_Reader_Take g_ref02_K g_ref02_Unfold l_2 l_12).step Proofs.Try.prog Proofs.Try.f68 12 (S_ref02_Take_12 l_12) k (a52, a53, a54, a55, a56, a57, a58, a59) = B_ref02_Take_12 g_ref02_K k (a52, a53, a54, a55, a56, a57, a58, a59)) ∧ (∀ (p1 : List Bool) (p2 : Int) (p3 : Int) (p4 : Int), (D_ref02_Take g_ref01_Reader_Take g_ref02_K g_ref02_Unfold l_2 l_12).body Proofs.Try.prog Proofs.Try.f68 s_ref02_Take (p1, p2, p3, p4) = F_ref02_Take g_ref01_Reader_Take g_ref02_K g_ref02_Unfold l_2 l_12 (p1, p2, p3, p4)) := ⟨fun k a5 a6 a7 a8 a9 => by kernel_rfl, fun k a52 a53 a54 a55 a56 a57 a58 a59 => by kernel_rfl, fun p1 p2 p3 p4 => by kernel_rfl⟩
theorem k_ref02_Take : Known Proofs.Try.prog 68 (s_ref02_Take.sp f_ref02_Take) :=
  known_of (D := D_ref02_Take f_ref01_Reader_Take f_ref02_K f_ref02_Unfold F_ref02_Take_2 F_ref02_Take_12) mixed Proofs.Try.func68 (by kernel_rfl) (by kernel_rfl) ⟨k_ref01_Reader_Take, k_ref02_K, k_ref02_Unfold, trivial⟩ ⟨fact_of fun k x => (q_ref02_Take f_ref01_Reader_Take f_ref02_K f_ref02_Unfold F_ref02_Take_2 F_ref02_Take_12).1 k x.1 x.2.1 x.2.2.1 x.2.2.2.1 x.2.2.2.2, fact_of fun k x => (q_ref02_Take f_ref01_Reader_Take f_ref02_K f_ref02_Unfold F_ref02_Take_2 F_ref02_Take_12).2.1 k x.1 x.2.1 x.2.2.1 x.2.2.2.1 x.2.2.2.2.1 x.2.2.2.2.2.1 x.2.2.2.2.2.2.1 x.2.2.2.2.2.2.2, trivial⟩ fun x => (q_ref02_Take f_ref01_Reader_Take f_ref02_K f_ref02_Unfold F_ref02_Take_2 F_ref02_Take_12).2.2 x.1 x.2.1 x.2.2.1 x.2.2.2

/-! serinette/serinetteref15.Take -/
abbrev G_ref15_Take := (List Bool) × Int × Int × Int × Int → Option (((List Int) × e4 × Int × (List Bool) × Int × Int))
abbrev L_ref15_Take_29 := Int × Int × Int × Int × (List Bool) × Int × Int × Bool × Int × (List e0) × Bool × Int × (List e0) × Bool × Int × (List e0) × (List Int) × (List Int) × Int × Bool → Option ((Int × Int × Int × Int × (List Bool) × Int × Int × Bool × Int × (List e0) × Bool × Int × (List e0) × Bool × Int × (List e0) × (List Int) × (List Int)) ⊕ (Int × (List Bool) × Int × Int × (List Int) × Bool × Int × (List e0)))
def B_ref15_Take_29 (g_ref01_Reader_Take : G_ref01_Reader_Take) (g_ref02_Take : G_ref02_Take) (g_ref15_Signed : G_ref15_Signed) (again : L_ref15_Take_29) : L_ref15_Take_29
  | (a129, a130, a131, a132, a133, a134, a135, a136, a137, a138, a139, a140, a141, a142, a143, a144, a145, a146, a147, a148) =>
    Option.bind (α := (Int × Int × Int × Int × Bool × (List Bool) × Int × Int × Bool × Int × (List e0) × Bool × Int × (List e0) × Bool × Int × (List e0) × (List Int) × (List Int) × Int × Bool)) (
      if (decide ((((List.length a146 : Nat) : Int)) < ((subI .i64 a129 a130)))) = true then
        (inb a132 (List.length a145)).bind fun x149 =>
        (idx a145 a132).bind fun x150 =>
        some ((a129, a130, a131, a132, (decide (x150 > ((0 : Int)))), a133, a134, a135, a136, a137, a138, a139, a140, a141, a142, a143, a144, a145, a146, a147, a148))
      else
        some ((a129, a130, a131, a132, false, a133, a134, a135, a136, a137, a138, a139, a140, a141, a142, a143, a144, a145, a146, a147, a148))) fun (x151, x152, x153, x154, x155, x156, x157, x158, x159, x160, x161, x162, x163, x164, x165, x166, x167, x168, x169, x170, x171) =>
    Option.bind (α := (Int × Int × Int × Int × (List Bool) × Int × Int × Bool × Int × (List e0) × Bool × Int × (List e0) × Bool × Int × (List e0) × (List Int) × (List Int) × Int × Bool) ⊕ (Int × Int × Int × Int × (List Bool) × Int × Int × Bool × Int × (List e0) × Bool × Int × (List e0) × Bool × Int × (List e0) × (List Int) × (List Int))) (
      if x155 = true then
        some ((.inl (x151, x152, x153, x154, x156, x157, x158, x159, x160, x161, x162, x163, x164, x165, x166, x167, x168, x169, x170, x171)))
      else
        some ((.inr (x151, x152, x153, x154, x156, x157, x158, x159, x160, x161, x162, x163, x164, x165, x166, x167, x168, x169)))) fun o => match o with
      | (.inl (x172, x173, x174, x175, x176, x177, x178, x179, x180, x181, x182, x183, x184, x185, x186, x187, x188, x189, x190, x191)) =>
        Option.bind (α := (Int × Int × Int × Int × Int × (List Bool) × Int × Int × Bool × Int × (List e0) × Bool × Int × (List e0) × Bool × Int × (List e0) × (List Int) × (List Int) × Int × Bool)) (
          if x191 = true then
            (g_ref01_Reader_Take ((x176, x177, x178, x190))).bind fun (x192, x193, x194, x195) =>
            (g_ref15_Signed ((x192, x190))).bind fun x196 =>
            some ((x172, x173, x174, x175, x196, x193, x194, x195, x179, x180, x181, x182, x183, x184, x185, x186, x187, x188, x189, x190, x191))
          else
            (g_ref02_Take ((x176, x177, x178, x190))).bind fun (x197, x198, x199, x200) =>
            some ((x172, x173, x174, x175, x197, x198, x199, x200, x179, x180, x181, x182, x183, x184, x185, x186, x187, x188, x189, x190, x191))) fun (x201, x202, x203, x204, x205, x206, x207, x208, x209, x210, x211, x212, x213, x214, x215, x216, x217, x218, x219, x220, x221) =>
        if (x208 != ((0 : Int))) = true then
          some ((.inr (x208, x206, x207, x208, ([] : List Int), x212, x213, x214)))
        else
          Option.bind (α := (Int × Int × Int × Int × Int × Bool × (List Bool) × Int × Int × Bool × Int × (List e0) × Bool × Int × (List e0) × Bool × Int × (List e0) × (List Int) × (List Int) × Int × Bool)) (
            if (decide (x205 < ((-2147483647 : Int)))) = true then
              some ((x201, x202, x203, x204, x205, true, x206, x207, x208, x209, x210, x211, x212, x213, x214, x215, x216, x217, x218, x219, x220, x221))
            else
              some ((x201, x202, x203, x204, x205, (decide (x205 > ((2147483647 : Int)))), x206, x207, x208, x209, x210, x211, x212, x213, x214, x215, x216, x217, x218, x219, x220, x221))) fun (x222, x223, x224, x225, x226, x227, x228, x229, x230, x231, x232, x233, x234, x235, x236, x237, x238, x239, x240, x241, x242, x243) =>
          if x227 = true then
            some ((.inr ((14 : Int), x228, x229, x230, ([] : List Int), x234, x235, x236)))
          else
            (room (List.length x241 + List.length ((List.set (List.replicate 1 (0 : Int)) 0 x226)))).bind fun x244 =>
            (inb x225 (List.length x240)).bind fun x245 =>
            (idx x240 x225).bind fun x246 =>
            (inb x225 (List.length x240)).bind fun x247 =>
            (idx x240 x225).bind fun x248 =>
            again ((x222, x223, x224, x225, x228, x229, x230, x231, x232, x233, x234, x235, x236, x237, x238, x239, (List.set x240 (Int.toNat x225) ((subI .i64 x246 ((1 : Int))))), (x241 ++ (List.set (List.replicate 1 (0 : Int)) 0 x226)), x242, x243))
      | (.inr (x249, x250, x251, x252, x253, x254, x255, x256, x257, x258, x259, x260, x261, x262, x263, x264, x265, x266)) =>
        some ((.inl (x249, x250, x251, x252, x253, x254, x255, x256, x257, x258, x259, x260, x261, x262, x263, x264, x265, x266)))
noncomputable def F_ref15_Take_29 : L_ref15_Take_29 := lfp (B_ref15_Take_29 f_ref01_Reader_Take f_ref02_Take f_ref15_Signed)
abbrev S_ref15_Take_29 (l : L_ref15_Take_29) : LoopS := ⟨⟨.normal, [], [(0, .ptr 0 1 0), (1, vI), (2, vI), (7, .ptr 28672 0 0), (9, .ptr 36864 0 0), (11, .ptr 45056 0 0), (12, .lref 49152 0), (13, vI), (14, .lref 57344 0), (15, vI), (17, .ptr 69632 0 0)], [(0, 1, .box [.val (.slice tO), vI, vI]), (28672, 0, .box [vO, vI, .lref 28675 0]), (28675, 0, .own y0), (36864, 0, .box [vO, vI, .lref 36867 0]), (36867, 0, .own y0), (45056, 0, .box [vO, vI, .lref 45059 0]), (45059, 0, .own y0), (49152, 0, .own tI), (57344, 0, .own tI), (69632, 0, .box [vI, vO])], [tI, tI, tI, tI, .slice tO, tI, tI, tO, tI, .slice y0, tO, tI, .slice y0, tO, tI, .slice y0, tL, tL, tI, tO]⟩, [⟨.exit 2, [], [(0, .ptr 0 1 0), (1, vI), (2, vI), (7, .ptr 28672 0 0), (9, .ptr 36864 0 0), (11, .ptr 45056 0 0), (12, .lref 49152 0), (13, vI), (14, .lref 57344 0), (15, vI)], [(0, 1, .box [.val (.slice tO), vI, vI]), (28672, 0, .box [vO, vI, .lref 28675 0]), (28675, 0, .own y0), (36864, 0, .box [vO, vI, .lref 36867 0]), (36867, 0, .own y0), (45056, 0, .box [vO, vI, .lref 45059 0]), (45059, 0, .own y0), (49152, 0, .own tI), (57344, 0, .own tI)], [tI, tI, tI, tI, .slice tO, tI, tI, tO, tI, .slice y0, tO, tI, .slice y0, tO, tI, .slice y0, tL, tL]⟩, ⟨.ret, [], [(6, .lref 24576 0), (7, .ptr 28672 0 0), (8, vI)], [(0, 1, .box [.val (.slice tO), vI, vI]), (24576, 0, .own tI), (28672, 0, .box [vO, vI, .lref 28675 0]), (28675, 0, .own y0)], [tI, .slice tO, tI, tI, tL, tO, tI, .slice y0]⟩], l⟩
abbrev L_ref15_Take_21 := Int × Int × Int × Int × (List Bool) × Int × Int × Bool × Int × (List e0) × Bool × Int × (List e0) × Bool × Int × (List e0) × (List Int) × (List Int) → Option (((List Bool) × Int × Int × Bool × Int × (List e0) × Bool × Int × (List e0) × (List Int)) ⊕ (Int × (List Bool) × Int × Int × (List Int) × Bool × Int × (List e0)))
def B_ref15_Take_21 (g_ref01_Reader_Take : G_ref01_Reader_Take) (l_29 : L_ref15_Take_29) (again : L_ref15_Take_21) : L_ref15_Take_21
  | (a43, a44, a45, a46, a47, a48, a49, a50, a51, a52, a53, a54, a55, a56, a57, a58, a59, a60) =>
    Option.bind (α := (Int × Int × Int × Int × (List Bool) × Int × Int × Bool × Int × (List e0) × Bool × Int × (List e0) × Bool × Int × (List e0) × (List Int) × (List Int)) ⊕ ((List Bool) × Int × Int × Bool × Int × (List e0) × Bool × Int × (List e0) × (List Int))) (
      if (decide (a46 < (((List.length a59 : Nat) : Int)))) = true then
        some ((.inl (a43, a44, a45, a46, a47, a48, a49, a50, a51, a52, a53, a54, a55, a56, a57, a58, a59, a60)))
      else
        some ((.inr (a47, a48, a49, a50, a51, a52, a56, a57, a58, a60)))) fun o => match o with
      | (.inl (x61, x62, x63, x64, x65, x66, x67, x68, x69, x70, x71, x72, x73, x74, x75, x76, x77, x78)) =>
        (g_ref01_Reader_Take ((x65, x66, x67, x63))).bind fun (x79, x80, x81, x82) =>
        Option.bind (α := (Int × Int × Int × Int × Bool × (List Bool) × Int × Int × Bool × Int × (List e0) × Bool × Int × (List e0) × Bool × Int × (List e0) × (List Int) × (List Int) × Int × Bool)) (
          if (((IntKind.wrap .i64 x79)) == ((15 : Int))) = true then
            if (!x74) = true then
              some ((x61, x62, x63, x64, true, x80, x81, x82, x68, x69, x70, x71, x72, x73, x74, x75, x76, x77, x78, (IntKind.wrap .i64 x79), false))
            else
              some ((x61, x62, x63, x64, (((IntKind.wrap .i64 x79)) == ((31 : Int))), x80, x81, x82, x68, x69, x70, x71, x72, x73, x74, x75, x76, x77, x78, (IntKind.wrap .i64 x79), false))
          else
            some ((x61, x62, x63, x64, (((IntKind.wrap .i64 x79)) == ((31 : Int))), x80, x81, x82, x68, x69, x70, x71, x72, x73, x74, x75, x76, x77, x78, (IntKind.wrap .i64 x79), false))) fun (x83, x84, x85, x86, x87, x88, x89, x90, x91, x92, x93, x94, x95, x96, x97, x98, x99, x100, x101, x102, x103) =>
        Option.bind (α := (Int × Int × Int × Int × (List Bool) × Int × Int × Bool × Int × (List e0) × Bool × Int × (List e0) × Bool × Int × (List e0) × (List Int) × (List Int) × Int × Bool)) (
          if x87 = true then
            (g_ref01_Reader_Take ((x88, x89, x90, (5 : Int)))).bind fun (x104, x105, x106, x107) =>
            some ((x83, x84, x85, x86, x105, x106, x107, x91, x92, x93, x94, x95, x96, x97, x98, x99, x100, x101, (IntKind.wrap .i64 x104), true))
          else
            some ((x83, x84, x85, x86, x88, x89, x90, x91, x92, x93, x94, x95, x96, x97, x98, x99, x100, x101, x102, x103))) fun (x108, x109, x110, x111, x112, x113, x114, x115, x116, x117, x118, x119, x120, x121, x122, x123, x124, x125, x126, x127) =>
        (room (List.length x123 + List.length ((List.set (List.replicate 1 ((0 : Int), (false, ()))) 0 ((x126, (x127, ()))))))).bind fun x128 =>
        Option.bind (α := (Int × Int × Int × Int × (List Bool) × Int × Int × Bool × Int × (List e0) × Bool × Int × (List e0) × Bool × Int × (List e0) × (List Int) × (List Int)) ⊕ (Int × (List Bool) × Int × Int × (List Int) × Bool × Int × (List e0))) (
          l_29 ((x108, x109, x110, x111, x112, x113, x114, x115, x116, x117, x118, x119, x120, x121, x122, (x123 ++ (List.set (List.replicate 1 ((0 : Int), (false, ()))) 0 ((x126, (x127, ()))))), x124, x125, x126, x127))) fun o => match o with
          | (.inl (x267, x268, x269, x270, x271, x272, x273, x274, x275, x276, x277, x278, x279, x280, x281, x282, x283, x284)) =>
            again ((x267, x268, x269, (addI .i64 x270 ((1 : Int))), x271, x272, x273, x274, x275, x276, x277, x278, x279, x280, x281, x282, x283, x284))
          | (.inr (x285, x286, x287, x288, x289, x290, x291, x292)) =>
            some ((.inr (x285, x286, x287, x288, x289, x290, x291, x292)))
      | (.inr (x293, x294, x295, x296, x297, x298, x299, x300, x301, x302)) =>
        some ((.inl (x293, x294, x295, x296, x297, x298, x299, x300, x301, x302)))
noncomputable def F_ref15_Take_21 : L_ref15_Take_21 := lfp (B_ref15_Take_21 f_ref01_Reader_Take F_ref15_Take_29)
abbrev S_ref15_Take_21 (l : L_ref15_Take_21) : LoopS := ⟨⟨.normal, [], [(0, .ptr 0 1 0), (1, vI), (2, vI), (7, .ptr 28672 0 0), (9, .ptr 36864 0 0), (11, .ptr 45056 0 0), (12, .lref 49152 0), (13, vI), (14, .lref 57344 0), (15, vI)], [(0, 1, .box [.val (.slice tO), vI, vI]), (28672, 0, .box [vO, vI, .lref 28675 0]), (28675, 0, .own y0), (36864, 0, .box [vO, vI, .lref 36867 0]), (36867, 0, .own y0), (45056, 0, .box [vO, vI, .lref 45059 0]), (45059, 0, .own y0), (49152, 0, .own tI), (57344, 0, .own tI)], [tI, tI, tI, tI, .slice tO, tI, tI, tO, tI, .slice y0, tO, tI, .slice y0, tO, tI, .slice y0, tL, tL]⟩, [⟨.exit 0, [], [(7, .ptr 28672 0 0), (11, .ptr 45056 0 0), (14, .lref 57344 0)], [(0, 1, .box [.val (.slice tO), vI, vI]), (28672, 0, .box [vO, vI, .lref 28675 0]), (28675, 0, .own y0), (45056, 0, .box [vO, vI, .lref 45059 0]), (45059, 0, .own y0), (57344, 0, .own tI)], [.slice tO, tI, tI, tO, tI, .slice y0, tO, tI, .slice y0, tL]⟩, ⟨.ret, [], [(6, .lref 24576 0), (7, .ptr 28672 0 0), (8, vI)], [(0, 1, .box [.val (.slice tO), vI, vI]), (24576, 0, .own tI), (28672, 0, .box [vO, vI, .lref 28675 0]), (28675, 0, .own y0)], [tI, .slice tO, tI, tI, tL, tO, tI, .slice y0]⟩], l⟩
def F_ref15_Take (g_ref01_Reader_Take : G_ref01_Reader_Take) (g_ref14_Cuts : G_ref14_Cuts) (l_21 : L_ref15_Take_21) : G_ref15_Take
  | (p1, p2, p3, p4, p5) =>
    Option.bind (α := (Int × Int × Bool × (List Bool) × Int × Int × Bool × Int × (List e0) × Bool × Int × (List e0))) (
      if (decide (p5 < ((0 : Int)))) = true then
        some ((p4, p5, true, p1, p2, p3, false, (0 : Int), ([] : List e0), false, (0 : Int), ([] : List e0)))
      else
        if (decide (p5 > ((32 : Int)))) = true then
          some ((p4, p5, true, p1, p2, p3, false, (0 : Int), ([] : List e0), false, (0 : Int), ([] : List e0)))
        else
          if (decide (p4 < ((1 : Int)))) = true then
            some ((p4, p5, true, p1, p2, p3, false, (0 : Int), ([] : List e0), false, (0 : Int), ([] : List e0)))
          else
            if (decide (p4 > ((65535 : Int)))) = true then
              some ((p4, p5, true, p1, p2, p3, false, (0 : Int), ([] : List e0), false, (0 : Int), ([] : List e0)))
            else
              some ((p4, p5, (decide (p4 ≤ p5)), p1, p2, p3, false, (0 : Int), ([] : List e0), false, (0 : Int), ([] : List e0)))) fun (x6, x7, x8, x9, x10, x11, x12, x13, x14, x15, x16, x17) =>
    if x8 = true then
      some ((([] : List Int), (x15, (x16, (x17, ()))), (1 : Int), x9, x10, x11))
    else
      (g_ref01_Reader_Take ((x9, x10, x11, (2 : Int)))).bind fun (x18, x19, x20, x21) =>
      if (x21 != ((0 : Int))) = true then
        some ((([] : List Int), (x15, (x16, (x17, ()))), x21, x19, x20, x21))
      else
        if (decide (x18 > ((1 : Int)))) = true then
          some ((([] : List Int), (x15, (x16, (x17, ()))), (8 : Int), x19, x20, x21))
        else
          (g_ref01_Reader_Take ((x19, x20, x21, (4 : Int)))).bind fun (x22, x23, x24, x25) =>
          if (x25 != ((0 : Int))) = true then
            some ((([] : List Int), (x15, (x16, (x17, ()))), x25, x23, x24, x25))
          else
            (g_ref14_Cuts (((subI .i64 x6 x7), x7, (IntKind.wrap .i64 x22)))).bind fun x26 =>
            if ((((List.length x26 : Nat) : Int)) == ((0 : Int))) = true then
              some ((([] : List Int), (x15, (x16, (x17, ()))), (5 : Int), x23, x24, x25))
            else
              Option.bind (α := (Int × Int × Int × (List Bool) × Int × Int × Bool × Int × (List e0) × Bool × Int × (List e0) × Bool × Int × (List e0) × (List Int))) (
                if (x18 == ((1 : Int))) = true then
                  some ((x6, x7, (5 : Int), x23, x24, x25, x12, x13, x14, x15, x16, x17, (x18 == ((1 : Int))), (IntKind.wrap .i64 x22), ([] : List e0), x26))
                else
                  some ((x6, x7, (4 : Int), x23, x24, x25, x12, x13, x14, x15, x16, x17, (x18 == ((1 : Int))), (IntKind.wrap .i64 x22), ([] : List e0), x26))) fun (x27, x28, x29, x30, x31, x32, x33, x34, x35, x36, x37, x38, x39, x40, x41, x42) =>
              Option.bind (α := ((List Bool) × Int × Int × Bool × Int × (List e0) × Bool × Int × (List e0) × (List Int)) ⊕ (Int × (List Bool) × Int × Int × (List Int) × Bool × Int × (List e0))) (
                l_21 ((x27, x28, x29, (0 : Int), x30, x31, x32, x33, x34, x35, x36, x37, x38, x39, x40, x41, x42, ([] : List Int)))) fun o => match o with
                | (.inl (x303, x304, x305, x306, x307, x308, x309, x310, x311, x312)) =>
                  some ((x312, (x309, (x310, (x311, ()))), (0 : Int), x303, x304, x305))
                | (.inr (x313, x314, x315, x316, x317, x318, x319, x320)) =>
                  some ((x317, (x318, (x319, (x320, ()))), x313, x314, x315, x316))
noncomputable def f_ref15_Take : G_ref15_Take := F_ref15_Take f_ref01_Reader_Take f_ref14_Cuts F_ref15_Take_21
def s_ref15_Take : Sig := ⟨[.box [.val (.slice tO), vI, vI], vI, vI], [.slice tO, tI, tI, tI, tI], [⟨.tup [.own tI, .val y4, vI], [.box [.val (.slice tO), vI, vI]], [tL, y4, tI, .slice tO, tI, tI]⟩]⟩
def D_ref15_Take (g_ref01_Reader_Take : G_ref01_Reader_Take) (g_ref02_Take : G_ref02_Take) (g_ref14_Cuts : G_ref14_Cuts) (g_ref15_Signed : G_ref15_Signed) (l_29 : L_ref15_Take_29) (l_21 : L_ref15_Take_21) : Desc := ⟨[(31, s_ref01_Reader_Take.sp g_ref01_Reader_Take), (68, s_ref02_Take.sp g_ref02_Take), (41, s_ref14_Cuts.sp g_ref14_Cuts), (32, s_ref15_Signed.sp g_ref15_Signed)], [0, 1, 2, 3, 4, 5, 6, 8, 9, 10, 11, 12, 13, 14, 15, 16, 17, 18], true, [], [(300002, [⟨.normal, [], [(0, .ptr 0 1 0), (1, vI), (2, vI), (7, .ptr 28672 0 0), (9, .ptr 36864 0 0), (38, vO)], [(0, 1, .box [.val (.slice tO), vI, vI]), (28672, 0, .box [vO, vI, .lref 28675 0]), (28675, 0, .own y0), (36864, 0, .box [vO, vI, .lref 36867 0]), (36867, 0, .own y0)], [tI, tI, tO, .slice tO, tI, tI, tO, tI, .slice y0, tO, tI, .slice y0]⟩]), (18000084, [⟨.normal, [], [(0, .ptr 0 1 0), (1, vI), (2, vI), (7, .ptr 28672 0 0), (9, .ptr 36864 0 0), (11, .ptr 45056 0 0), (12, .lref 49152 0), (13, vI)], [(0, 1, .box [.val (.slice tO), vI, vI]), (28672, 0, .box [vO, vI, .lref 28675 0]), (28675, 0, .own y0), (36864, 0, .box [vO, vI, .lref 36867 0]), (36867, 0, .own y0), (45056, 0, .box [vO, vI, .lref 45059 0]), (45059, 0, .own y0), (49152, 0, .own tI)], [tI, tI, tI, .slice tO, tI, tI, tO, tI, .slice y0, tO, tI, .slice y0, tO, tI, .slice y0, tL]⟩]), (88, [⟨.normal, [], [(0, .ptr 0 1 0), (1, vI), (2, vI), (7, .ptr 28672 0 0), (9, .ptr 36864 0 0), (11, .ptr 45056 0 0), (12, .lref 49152 0), (13, vI), (14, .lref 57344 0), (15, vI)], [(0, 1, .box [.val (.slice tO), vI, vI]), (28672, 0, .box [vO, vI, .lref 28675 0]), (28675, 0, .own y0), (36864, 0, .box [vO, vI, .lref 36867 0]), (36867, 0, .own y0), (45056, 0, .box [vO, vI, .lref 45059 0]), (45059, 0, .own y0), (49152, 0, .own tI), (57344, 0, .own tI)], [tI, tI, tI, tI, .slice tO, tI, tI, tO, tI, .slice y0, tO, tI, .slice y0, tO, tI, .slice y0, tL, tL]⟩, ⟨.exit 0, [], [(7, .ptr 28672 0 0), (11, .ptr 45056 0 0), (14, .lref 57344 0)], [(0, 1, .box [.val (.slice tO), vI, vI]), (28672, 0, .box [vO, vI, .lref 28675 0]), (28675, 0, .own y0), (45056, 0, .box [vO, vI, .lref 45059 0]), (45059, 0, .own y0), (57344, 0, .own tI)], [.slice tO, tI, tI, tO, tI, .slice y0, tO, tI, .slice y0, tL]⟩]), (300025, [⟨.normal, [], [(0, .ptr 0 1 0), (1, vI), (2, vI), (7, .ptr 28672 0 0), (9, .ptr 36864 0 0), (11, .ptr 45056 0 0), (12, .lref 49152 0), (13, vI), (14, .lref 57344 0), (15, vI), (17, .ptr 69632 0 0), (107, vO)], [(0, 1, .box [.val (.slice tO), vI, vI]), (28672, 0, .box [vO, vI, .lref 28675 0]), (28675, 0, .own y0), (36864, 0, .box [vO, vI, .lref 36867 0]), (36867, 0, .own y0), (45056, 0, .box [vO, vI, .lref 45059 0]), (45059, 0, .own y0), (49152, 0, .own tI), (57344, 0, .own tI), (69632, 0, .box [vI, vO])], [tI, tI, tI, tI, tO, Ty.slice tO, tI, tI, tO, tI, Ty.slice y0, tO, tI, Ty.slice y0, tO, tI, Ty.slice y0, tL, tL, tI, tO]⟩]), (26000107, [⟨.normal, [], [(0, .ptr 0 1 0), (1, vI), (2, vI), (7, .ptr 28672 0 0), (9, .ptr 36864 0 0), (11, .ptr 45056 0 0), (12, .lref 49152 0), (13, vI), (14, .lref 57344 0), (15, vI), (17, .ptr 69632 0 0)], [(0, 1, .box [.val (.slice tO), vI, vI]), (28672, 0, .box [vO, vI, .lref 28675 0]), (28675, 0, .own y0), (36864, 0, .box [vO, vI, .lref 36867 0]), (36867, 0, .own y0), (45056, 0, .box [vO, vI, .lref 45059 0]), (45059, 0, .own y0), (49152, 0, .own tI), (57344, 0, .own tI), (69632, 0, .box [vI, vO])], [tI, tI, tI, tI, .slice tO, tI, tI, tO, tI, .slice y0, tO, tI, .slice y0, tO, tI, .slice y0, tL, tL, tI, tO]⟩]), (300029, [⟨.normal, [], [(0, .ptr 0 1 0), (1, vI), (2, vI), (7, .ptr 28672 0 0), (9, .ptr 36864 0 0), (11, .ptr 45056 0 0), (12, .lref 49152 0), (13, vI), (14, .lref 57344 0), (15, vI), (17, .ptr 69632 0 0), (131, vO)], [(0, 1, .box [.val (.slice tO), vI, vI]), (28672, 0, .box [vO, vI, .lref 28675 0]), (28675, 0, .own y0), (36864, 0, .box [vO, vI, .lref 36867 0]), (36867, 0, .own y0), (45056, 0, .box [vO, vI, .lref 45059 0]), (45059, 0, .own y0), (49152, 0, .own tI), (57344, 0, .own tI), (69632, 0, .box [vI, vO])], [tI, tI, tI, tI, tO, Ty.slice tO, tI, tI, tO, tI, Ty.slice y0, tO, tI, Ty.slice y0, tO, tI, Ty.slice y0, tL, tL, tI, tO]⟩]), (131, [⟨.normal, [], [(0, .ptr 0 1 0), (1, vI), (2, vI), (7, .ptr 28672 0 0), (9, .ptr 36864 0 0), (11, .ptr 45056 0 0), (12, .lref 49152 0), (13, vI), (14, .lref 57344 0), (15, vI), (17, .ptr 69632 0 0)], [(0, 1, .box [.val (.slice tO), vI, vI]), (28672, 0, .box [vO, vI, .lref 28675 0]), (28675, 0, .own y0), (36864, 0, .box [vO, vI, .lref 36867 0]), (36867, 0, .own y0), (45056, 0, .box [vO, vI, .lref 45059 0]), (45059, 0, .own y0), (49152, 0, .own tI), (57344, 0, .own tI), (69632, 0, .box [vI, vO])], [tI, tI, tI, tI, .slice tO, tI, tI, tO, tI, .slice y0, tO, tI, .slice y0, tO, tI, .slice y0, tL, tL, tI, tO]⟩, ⟨.exit 2, [], [(0, .ptr 0 1 0), (1, vI), (2, vI), (7, .ptr 28672 0 0), (9, .ptr 36864 0 0), (11, .ptr 45056 0 0), (12, .lref 49152 0), (13, vI), (14, .lref 57344 0), (15, vI)], [(0, 1, .box [.val (.slice tO), vI, vI]), (28672, 0, .box [vO, vI, .lref 28675 0]), (28675, 0, .own y0), (36864, 0, .box [vO, vI, .lref 36867 0]), (36867, 0, .own y0), (45056, 0, .box [vO, vI, .lref 45059 0]), (45059, 0, .own y0), (49152, 0, .own tI), (57344, 0, .own tI)], [tI, tI, tI, tI, .slice tO, tI, tI, tO, tI, .slice y0, tO, tI, .slice y0, tO, tI, .slice y0, tL, tL]⟩]), (33032000133, [⟨.normal, [], [(0, .ptr 0 1 0), (1, vI), (2, vI), (7, .ptr 28672 0 0), (9, .ptr 36864 0 0), (11, .ptr 45056 0 0), (12, .lref 49152 0), (13, vI), (14, .lref 57344 0), (15, vI), (17, .ptr 69632 0 0), (18, vI)], [(0, 1, .box [.val (.slice tO), vI, vI]), (28672, 0, .box [vO, vI, .lref 28675 0]), (28675, 0, .own y0), (36864, 0, .box [vO, vI, .lref 36867 0]), (36867, 0, .own y0), (45056, 0, .box [vO, vI, .lref 45059 0]), (45059, 0, .own y0), (49152, 0, .own tI), (57344, 0, .own tI), (69632, 0, .box [vI, vO])], [tI, tI, tI, tI, tI, Ty.slice tO, tI, tI, tO, tI, Ty.slice y0, tO, tI, Ty.slice y0, tO, tI, Ty.slice y0, tL, tL, tI, tO]⟩]), (300036, [⟨.normal, [], [(0, .ptr 0 1 0), (1, vI), (2, vI), (7, .ptr 28672 0 0), (9, .ptr 36864 0 0), (11, .ptr 45056 0 0), (12, .lref 49152 0), (13, vI), (14, .lref 57344 0), (15, vI), (17, .ptr 69632 0 0), (18, vI), (160, vO)], [(0, 1, .box [.val (.slice tO), vI, vI]), (28672, 0, .box [vO, vI, .lref 28675 0]), (28675, 0, .own y0), (36864, 0, .box [vO, vI, .lref 36867 0]), (36867, 0, .own y0), (45056, 0, .box [vO, vI, .lref 45059 0]), (45059, 0, .own y0), (49152, 0, .own tI), (57344, 0, .own tI), (69632, 0, .box [vI, vO])], [tI, tI, tI, tI, tI, tO, Ty.slice tO, tI, tI, tO, tI, Ty.slice y0, tO, tI, Ty.slice y0, tO, tI, Ty.slice y0, tL, tL, tI, tO]⟩])], [(29, S_ref15_Take_29 l_29), (21, S_ref15_Take_21 l_21)], [false, false, false]⟩
theorem q_ref15_Take (g_ref01_Reader_Take : G_ref01_Reader_Take) (g_ref02_Take : G_ref02_Take) (g_ref14_Cuts : G_ref14_Cuts) (g_ref15_Signed : G_ref15_Signed) (l_29 : L_ref15_Take_29) (l_21 : L_ref15_Take_21) : (∀ (k : L_ref15_Take_29) (a129 : Int) (a130 : Int) (a131 : Int) (a132 : Int) (a133 : List Bool) (a134 : Int) (a135 : Int) (a136 : Bool) (a137 : Int) (a138 : List e0) (a139 : Bool) (a140 : Int) (a141 : List e0) (a142 : Bool) (a143 : Int) (a144 : List e0) (a145 : List Int) (a146 : List Int) (a147 : Int) (a148 : Bool), (D_ref15_Take g_ref01_Reader_Take g_ref02_Take g_ref14_Cuts g_ref15_Signed l_29 l_21).step Proofs.Try.prog Proofs.Try.f33 29 (S_ref15_Take_29 l_29) k (a129, a130, a131, a132, a133, a134, a135, a136, a137, a138, a139, a140, a141, a142, a143, a144, a145, a146, a147, a148) = B_ref15_Take_29 g_ref01_Reader_Take g_ref02_Take g_ref15_Signed k (a129, a130, a131, a132, a133, a134, a135, a136, a137, a138, a139, a140, a141, a142, a143, a144, a145, a146, a147, a148)) ∧ (∀ (k : L_ref15_Take_21) (a43 : Int) (a44 : Int) (a45 : Int) (a46 : Int) (a47 : List Bool) (a48 : Int) (a49 : Int) (a50 : Bool) (a51 : Int) (a52 : List e0) (a53 : Bool) (a54 : Int) (a55 : List e0) (a56 : Bool) (a57 : Int) (a58 : List e0) (a59 : List Int) (a60 : List Int), (D_ref15_Take g_ref01_Reader_Take g_ref02_Take g_ref14_Cuts g_ref15_Signed l_29 l_21).step Proofs.Try.prog Proofs.Try.f33 21 (S_ref15_Take_21 l_21) k (a43, a44, a45, a46, a47, a48, a49, a50, a51, a52, a53, a54, a55, a56, a57, a58, a59, a60) = B_ref15_Take_21 g_ref01_Reader_Take l_29 k (a43, a44, a45, a46, a47, a48, a49, a50, a51, a52, a53, a54, a55, a56, a57, a58, a59, a60)) ∧ (∀ (p1 : List Bool) (p2 : Int) (p3 : Int) (p4 : Int) (p5 : Int), (D_ref15_Take g_ref01_Reader_Take g_ref02_Take g_ref14_Cuts g_ref15_Signed l_29 l_21).body Proofs.Try.prog Proofs.Try.f33 s_ref15_Take (p1, p2, p3, p4, p5) = F_ref15_Take g_ref01_Reader_Take g_ref14_Cuts l_21 (p1, p2, p3, p4, p5)) := ⟨fun k a129 a130 a131 a132 a133 a134 a135 a136 a137 a138 a139 a140 a141 a142 a143 a144 a145 a146 a147 a148 => by kernel_rfl, fun k a43 a44 a45 a46 a47 a48 a49 a50 a51 a52 a53 a54 a55 a56 a57 a58 a59 a60 => by kernel_rfl, fun p1 p2 p3 p4 p5 => by kernel_rfl⟩
theorem k_ref15_Take : Known Proofs.Try.prog 33 (s_ref15_Take.sp f_ref15_Take) :=
  known_of (D := D_ref15_Take f_ref01_Reader_Take f_ref02_Take f_ref14_Cuts f_ref15_Signed F_ref15_Take_29 F_ref15_Take_21) mixed Proofs.Try.func33 (by kernel_rfl) (by kernel_rfl) ⟨k_ref01_Reader_Take, k_ref02_Take, k_ref14_Cuts, k_ref15_Signed, trivial⟩ ⟨fact_of fun k x => (q_ref15_Take f_ref01_Reader_Take f_ref02_Take f_ref14_Cuts f_ref15_Signed F_ref15_Take_29 F_ref15_Take_21).1 k x.1 x.2.1 x.2.2.1 x.2.2.2.1 x.2.2.2.2.1 x.2.2.2.2.2.1 x.2.2.2.2.2.2.1 x.2.2.2.2.2.2.2.1 x.2.2.2.2.2.2.2.2.1 x.2.2.2.2.2.2.2.2.2.1 x.2.2.2.2.2.2.2.2.2.2.1 x.2.2.2.2.2.2.2.2.2.2.2.1 x.2.2.2.2.2.2.2.2.2.2.2.2.1 x.2.2.2.2.2.2.2.2.2.2.2.2.2.1 x.2.2.2.2.2.2.2.2.2.2.2.2.2.2.1 x.2.2.2.2.2.2.2.2.2.2.2.2.2.2.2.1 x.2.2.2.2.2.2.2.2.2.2.2.2.2.2.2.2.1 x.2.2.2.2.2.2.2.2.2.2.2.2.2.2.2.2.2.1 x.2.2.2.2.2.2.2.2.2.2.2.2.2.2.2.2.2.2.1 x.2.2.2.2.2.2.2.2.2.2.2.2.2.2.2.2.2.2.2, fact_of fun k x => (q_ref15_Take f_ref01_Reader_Take f_ref02_Take f_ref14_Cuts f_ref15_Signed F_ref15_Take_29 F_ref15_Take_21).2.1 k x.1 x.2.1 x.2.2.1 x.2.2.2.1 x.2.2.2.2.1 x.2.2.2.2.2.1 x.2.2.2.2.2.2.1 x.2.2.2.2.2.2.2.1 x.2.2.2.2.2.2.2.2.1 x.2.2.2.2.2.2.2.2.2.1 x.2.2.2.2.2.2.2.2.2.2.1 x.2.2.2.2.2.2.2.2.2.2.2.1 x.2.2.2.2.2.2.2.2.2.2.2.2.1 x.2.2.2.2.2.2.2.2.2.2.2.2.2.1 x.2.2.2.2.2.2.2.2.2.2.2.2.2.2.1 x.2.2.2.2.2.2.2.2.2.2.2.2.2.2.2.1 x.2.2.2.2.2.2.2.2.2.2.2.2.2.2.2.2.1 x.2.2.2.2.2.2.2.2.2.2.2.2.2.2.2.2.2, trivial⟩ fun x => (q_ref15_Take f_ref01_Reader_Take f_ref02_Take f_ref14_Cuts f_ref15_Signed F_ref15_Take_29 F_ref15_Take_21).2.2 x.1 x.2.1 x.2.2.1 x.2.2.2.1 x.2.2.2.2

/-! serinette/serinetteref07.Factors -/
abbrev G_ref07_Factors := Int → Option ((List Int))
def F_ref07_Factors : G_ref07_Factors
  | p1 =>
    if (p1 == ((1 : Int))) = true then
      some ((List.set (List.replicate 1 (0 : Int)) 0 ((1 : Int))))
    else
      if (p1 == ((2 : Int))) = true then
        some ((List.set (List.set (List.replicate 2 (0 : Int)) 0 ((2 : Int))) 1 ((-1 : Int))))
      else
        if (p1 == ((3 : Int))) = true then
          some ((List.set (List.set (List.set (List.replicate 3 (0 : Int)) 0 ((3 : Int))) 1 ((-3 : Int))) 2 ((1 : Int))))
        else
          if (p1 == ((4 : Int))) = true then
            some ((List.set (List.set (List.set (List.set (List.replicate 4 (0 : Int)) 0 ((4 : Int))) 1 ((-6 : Int))) 2 ((4 : Int))) 3 ((-1 : Int))))
          else
            some (([] : List Int))
noncomputable def f_ref07_Factors : G_ref07_Factors := F_ref07_Factors
def s_ref07_Factors : Sig := ⟨[vI], [tI], [⟨.own tI, [], [tL]⟩]⟩
def D_ref07_Factors : Desc := ⟨[], [0, 1, 2], false, [], [], [], [false]⟩
theorem q_ref07_Factors : ∀ (p1 : Int), D_ref07_Factors.body Proofs.Try.prog Proofs.Try.f69 s_ref07_Factors p1 = F_ref07_Factors p1 := fun p1 => by kernel_rfl
theorem k_ref07_Factors : Known Proofs.Try.prog 69 (s_ref07_Factors.sp f_ref07_Factors) :=
  known_of (D := D_ref07_Factors) mixed Proofs.Try.func69 (by kernel_rfl) (by kernel_rfl) trivial trivial fun x => q_ref07_Factors x

/-! serinette/serinetteref07.Told -/
abbrev G_ref07_Told := (List Int) × Int × Int → Option (Int)
abbrev L_ref07_Told_4 := (List Int) × Int × Int × Int × (List Int) → Option (Int)
def B_ref07_Told_4 (again : L_ref07_Told_4) : L_ref07_Told_4
  | (a5, a6, a7, a8, a9) =>
    Option.bind (α := ((List Int) × Int × Int × Int × (List Int)) ⊕ Int) (
      if (decide (a8 < (((List.length a9 : Nat) : Int)))) = true then
        some ((.inl (a5, a6, a7, a8, a9)))
      else
        some ((.inr a7))) fun o => match o with
      | (.inl (x10, x11, x12, x13, x14)) =>
        (inb x13 (List.length x14)).bind fun x15 =>
        (idx x14 x13).bind fun x16 =>
        (idx x10 ((subI .i64 ((subI .i64 x11 ((1 : Int)))) x13))).bind fun x17 =>
        again ((x10, x11, (addI .i64 x12 ((mulI .i64 x16 x17))), (addI .i64 x13 ((1 : Int))), x14))
      | (.inr x18) =>
        some x18
noncomputable def F_ref07_Told_4 : L_ref07_Told_4 := lfp B_ref07_Told_4
abbrev S_ref07_Told_4 (l : L_ref07_Told_4) : LoopS := ⟨⟨.normal, [], [(0, vL), (1, vI), (7, .lref 28672 0), (8, vI), (9, vI)], [(28672, 0, .own tI)], [tL, tI, tI, tI, tL]⟩, [⟨.exit 0, [], [(8, vI)], [], [tI]⟩], l⟩
def F_ref07_Told (g_ref07_Factors : G_ref07_Factors) (l_4 : L_ref07_Told_4) : G_ref07_Told
  | (p1, p2, p3) =>
    (g_ref07_Factors p3).bind fun x4 =>
    Option.bind (α := Int) (
      l_4 ((p1, p2, (0 : Int), (0 : Int), x4))) fun x19 =>
    some x19
noncomputable def f_ref07_Told : G_ref07_Told := F_ref07_Told f_ref07_Factors F_ref07_Told_4
def s_ref07_Told : Sig := ⟨[vL, vI, vI], [tL, tI, tI], [⟨vI, [], [tI]⟩]⟩
def D_ref07_Told (g_ref07_Factors : G_ref07_Factors) (l_4 : L_ref07_Told_4) : Desc := ⟨[(69, s_ref07_Factors.sp g_ref07_Factors)], [0, 1, 2, 3, 4, 5, 6, 7, 8, 9], false, [], [(15, [⟨.normal, [], [(0, vL), (1, vI), (7, .lref 28672 0), (8, vI), (9, vI)], [(28672, 0, .own tI)], [tL, tI, tI, tI, tL]⟩, ⟨.exit 0, [], [(8, vI)], [], [tI]⟩])], [(4, S_ref07_Told_4 l_4)], [false]⟩
theorem q_ref07_Told (g_ref07_Factors : G_ref07_Factors) (l_4 : L_ref07_Told_4) : (∀ (k : L_ref07_Told_4) (a5 : List Int) (a6 : Int) (a7 : Int) (a8 : Int) (a9 : List Int), (D_ref07_Told g_ref07_Factors l_4).step Proofs.Try.prog Proofs.Try.f34 4 (S_ref07_Told_4 l_4) k (a5, a6, a7, a8, a9) = B_ref07_Told_4 k (a5, a6, a7, a8, a9)) ∧ (∀ (p1 : List Int) (p2 : Int) (p3 : Int), (D_ref07_Told g_ref07_Factors l_4).body Proofs.Try.prog Proofs.Try.f34 s_ref07_Told (p1, p2, p3) = F_ref07_Told g_ref07_Factors l_4 (p1, p2, p3)) := ⟨fun k a5 a6 a7 a8 a9 => by kernel_rfl, fun p1 p2 p3 => by kernel_rfl⟩
theorem k_ref07_Told : Known Proofs.Try.prog 34 (s_ref07_Told.sp f_ref07_Told) :=
  known_of (D := D_ref07_Told f_ref07_Factors F_ref07_Told_4) mixed Proofs.Try.func34 (by kernel_rfl) (by kernel_rfl) ⟨k_ref07_Factors, trivial⟩ ⟨fact_of fun k x => (q_ref07_Told f_ref07_Factors F_ref07_Told_4).1 k x.1 x.2.1 x.2.2.1 x.2.2.2.1 x.2.2.2.2, trivial⟩ fun x => (q_ref07_Told f_ref07_Factors F_ref07_Told_4).2 x.1 x.2.1 x.2.2

/-! serinette/serinetteref08.Down -/
abbrev G_ref08_Down := Int × Int → Option (Int)
def F_ref08_Down : G_ref08_Down
  | (p1, p2) =>
    (quoI .i64 p1 p2).bind fun x3 =>
    (remI p1 p2).bind fun x4 =>
    Option.bind (α := Int) (
      if (decide (x4 < ((0 : Int)))) = true then
        some ((subI .i64 x3 ((1 : Int))))
      else
        some x3) fun x5 =>
    some x5
noncomputable def f_ref08_Down : G_ref08_Down := F_ref08_Down
def s_ref08_Down : Sig := ⟨[vI, vI], [tI, tI], [⟨vI, [], [tI]⟩]⟩
def D_ref08_Down : Desc := ⟨[], [0, 1, 2, 3, 4, 5], false, [], [(3000012, [⟨.normal, [], [(5, vI)], [], [tI]⟩])], [], [false]⟩
theorem q_ref08_Down : ∀ (p1 : Int) (p2 : Int), D_ref08_Down.body Proofs.Try.prog Proofs.Try.f70 s_ref08_Down (p1, p2) = F_ref08_Down (p1, p2) := fun p1 p2 => by kernel_rfl
theorem k_ref08_Down : Known Proofs.Try.prog 70 (s_ref08_Down.sp f_ref08_Down) :=
  known_of (D := D_ref08_Down) mixed Proofs.Try.func70 (by kernel_rfl) (by kernel_rfl) trivial trivial fun x => q_ref08_Down x.1 x.2

/-! serinette/serinetteref12.Told -/
abbrev G_ref12_Told := (List Int) × Int × e2 → Option (Int)
abbrev L_ref12_Told_3 := (List Int) × Int × Int × Int × Int × Int × (List Int) → Option ((Int × Int × Int × (List Int)))
def B_ref12_Told_3 (again : L_ref12_Told_3) : L_ref12_Told_3
  | (a4, a5, a6, a7, a8, a9, a10) =>
    Option.bind (α := ((List Int) × Int × Int × Int × Int × Int × (List Int)) ⊕ (Int × Int × Int × (List Int))) (
      if (decide (a7 < (((List.length a10 : Nat) : Int)))) = true then
        some ((.inl (a4, a5, a6, a7, a8, a9, a10)))
      else
        some ((.inr (a6, a8, a9, a10)))) fun o => match o with
      | (.inl (x11, x12, x13, x14, x15, x16, x17)) =>
        (idx x17 x14).bind fun x18 =>
        (idx x11 ((subI .i64 ((subI .i64 x12 ((1 : Int)))) x14))).bind fun x19 =>
        again ((x11, x12, (addI .i64 x13 ((mulI .i64 x18 x19))), (addI .i64 x14 ((1 : Int))), x15, x16, x17))
      | (.inr (x20, x21, x22, x23)) =>
        some ((x20, x21, x22, x23))
noncomputable def F_ref12_Told_3 : L_ref12_Told_3 := lfp B_ref12_Told_3
abbrev S_ref12_Told_3 (l : L_ref12_Told_3) : LoopS := ⟨⟨.normal, [], [(0, vL), (1, vI), (5, .ptr 20480 0 0), (7, vI), (8, vI)], [(20480, 0, .box [vI, vI, vL])], [tL, tI, tI, tI, tI, tI, tL]⟩, [⟨.exit 0, [], [(5, .ptr 20480 0 0), (7, vI)], [(20480, 0, .box [vI, vI, vL])], [tI, tI, tI, tL]⟩], l⟩
def F_ref12_Told (g_ref06_Power : G_ref06_Power) (g_ref08_Down : G_ref08_Down) (l_3 : L_ref12_Told_3) : G_ref12_Told
  | (p1, p2, p3) =>
    Option.bind (α := (Int × Int × Int × (List Int))) (
      l_3 ((p1, p2, (0 : Int), (0 : Int), p3.1, p3.2.1, p3.2.2.1))) fun (x24, x25, x26, x27) =>
    (g_ref06_Power x25).bind fun x28 =>
    (g_ref08_Down ((x24, x28))).bind fun x29 =>
    some x29
noncomputable def f_ref12_Told : G_ref12_Told := F_ref12_Told f_ref06_Power f_ref08_Down F_ref12_Told_3
def s_ref12_Told : Sig := ⟨[vL, vI, .val y2], [tL, tI, y2], [⟨vI, [], [tI]⟩]⟩
def D_ref12_Told (g_ref06_Power : G_ref06_Power) (g_ref08_Down : G_ref08_Down) (l_3 : L_ref12_Told_3) : Desc := ⟨[(37, s_ref06_Power.sp g_ref06_Power), (70, s_ref08_Down.sp g_ref08_Down)], [0, 1, 2, 3, 4, 5, 6, 7, 8], false, [], [(13, [⟨.normal, [], [(0, vL), (1, vI), (5, .ptr 20480 0 0), (7, vI), (8, vI)], [(20480, 0, .box [vI, vI, vL])], [tL, tI, tI, tI, tI, tI, tL]⟩, ⟨.exit 0, [], [(5, .ptr 20480 0 0), (7, vI)], [(20480, 0, .box [vI, vI, vL])], [tI, tI, tI, tL]⟩])], [(3, S_ref12_Told_3 l_3)], [false]⟩
theorem q_ref12_Told (g_ref06_Power : G_ref06_Power) (g_ref08_Down : G_ref08_Down) (l_3 : L_ref12_Told_3) : (∀ (k : L_ref12_Told_3) (a4 : List Int) (a5 : Int) (a6 : Int) (a7 : Int) (a8 : Int) (a9 : Int) (a10 : List Int), (D_ref12_Told g_ref06_Power g_ref08_Down l_3).step Proofs.Try.prog Proofs.Try.f35 3 (S_ref12_Told_3 l_3) k (a4, a5, a6, a7, a8, a9, a10) = B_ref12_Told_3 k (a4, a5, a6, a7, a8, a9, a10)) ∧ (∀ (p1 : List Int) (p2 : Int) (p3 : e2), (D_ref12_Told g_ref06_Power g_ref08_Down l_3).body Proofs.Try.prog Proofs.Try.f35 s_ref12_Told (p1, p2, p3) = F_ref12_Told g_ref06_Power g_ref08_Down l_3 (p1, p2, p3)) := ⟨fun k a4 a5 a6 a7 a8 a9 a10 => by kernel_rfl, fun p1 p2 p3 => by kernel_rfl⟩
theorem k_ref12_Told : Known Proofs.Try.prog 35 (s_ref12_Told.sp f_ref12_Told) :=
  known_of (D := D_ref12_Told f_ref06_Power f_ref08_Down F_ref12_Told_3) mixed Proofs.Try.func35 (by kernel_rfl) (by kernel_rfl) ⟨k_ref06_Power, k_ref08_Down, trivial⟩ ⟨fact_of fun k x => (q_ref12_Told f_ref06_Power f_ref08_Down F_ref12_Told_3).1 k x.1 x.2.1 x.2.2.1 x.2.2.2.1 x.2.2.2.2.1 x.2.2.2.2.2.1 x.2.2.2.2.2.2, trivial⟩ fun x => (q_ref12_Told f_ref06_Power f_ref08_Down F_ref12_Told_3).2 x.1 x.2.1 x.2.2

/-! serinette/serinetteref06.In -/
abbrev G_ref06_In := Int × Int → Option (Bool)
def F_ref06_In (g_ref06_Power : G_ref06_Power) : G_ref06_In
  | (p1, p2) =>
    Option.bind (α := (Int × Int × Bool)) (
      if (decide (p2 < ((1 : Int)))) = true then
        some ((p1, p2, true))
      else
        some ((p1, p2, (decide (p2 > ((62 : Int))))))) fun (x3, x4, x5) =>
    if x5 = true then
      some false
    else
      (g_ref06_Power ((subI .i64 x4 ((1 : Int))))).bind fun x6 =>
      Option.bind (α := Bool) (
        if (decide (x3 ≥ ((subI .i64 0 x6)))) = true then
          some ((decide (x3 < x6)))
        else
          some false) fun x7 =>
      some x7
noncomputable def f_ref06_In : G_ref06_In := F_ref06_In f_ref06_Power
def s_ref06_In : Sig := ⟨[vI, vI], [tI, tI], [⟨vO, [], [tO]⟩]⟩
def D_ref06_In (g_ref06_Power : G_ref06_Power) : Desc := ⟨[(37, s_ref06_Power.sp g_ref06_Power)], [0, 1, 2, 3, 4, 5], false, [], [(300001, [⟨.normal, [], [(0, vI), (1, vI), (11, vO)], [], [tI, tI, tO]⟩]), (300004, [⟨.normal, [], [(4, vO)], [], [tO]⟩])], [], [false]⟩
theorem q_ref06_In (g_ref06_Power : G_ref06_Power) : ∀ (p1 : Int) (p2 : Int), (D_ref06_In g_ref06_Power).body Proofs.Try.prog Proofs.Try.f36 s_ref06_In (p1, p2) = F_ref06_In g_ref06_Power (p1, p2) := fun p1 p2 => by kernel_rfl
theorem k_ref06_In : Known Proofs.Try.prog 36 (s_ref06_In.sp f_ref06_In) :=
  known_of (D := D_ref06_In f_ref06_Power) mixed Proofs.Try.func36 (by kernel_rfl) (by kernel_rfl) ⟨k_ref06_Power, trivial⟩ trivial fun x => (q_ref06_In f_ref06_Power) x.1 x.2

/-! serinette/serinetteref16.Take -/
abbrev G_ref16_Take := (List Bool) × Int × Int × Int × Int → Option (((List Int) × e9 × Int × (List Bool) × Int × Int))
abbrev L_ref16_Take_23 := Int × Int × Int × Int × (List Bool) × Int × Int × Int × Int × Int × Int × Int × Bool × Int × (List Int) × (List e0) × Int × Int × Int × Int × Int × Bool × Int × (List Int) × (List e0) × Int × Int × Int × Int × Int × Bool × Int × (List Int) × (List e0) → Option ((Int × Int × Int × (List Bool) × Int × Int × Int × Int × Int × Int × Int × Bool × Int × (List Int) × (List e0) × Int × Int × Int × Int × Int × Bool × Int × (List Int) × (List e0) × Int × Int × Int × Int × Int × Bool × Int × (List Int) × (List e0)) ⊕ (Int × (List Bool) × Int × Int × (List Int) × Int × Int × Int × Int × Int × Bool × Int × (List Int) × (List e0)))
def B_ref16_Take_23 (g_ref01_Reader_Take : G_ref01_Reader_Take) (again : L_ref16_Take_23) : L_ref16_Take_23
  | (a157, a158, a159, a160, a161, a162, a163, a164, a165, a166, a167, a168, a169, a170, a171, a172, a173, a174, a175, a176, a177, a178, a179, a180, a181, a182, a183, a184, a185, a186, a187, a188, a189, a190) =>
    Option.bind (α := (Int × Int × Int × Bool × (List Bool) × Int × Int × Int × Int × Int × Int × Int × Bool × Int × (List Int) × (List e0) × Int × Int × Int × Int × Int × Bool × Int × (List Int) × (List e0) × Int × Int × Int × Int × Int × Bool × Int × (List Int) × (List e0))) (
      if (a163 == ((0 : Int))) = true then
        if (a183 == ((0 : Int))) = true then
          if (a160 == ((1 : Int))) = true then
            some ((a157, a158, a159, true, a161, a162, a163, a164, a165, a166, a167, a168, a169, a170, a171, a172, a173, a174, a175, a176, a177, a178, a179, a180, a181, a182, a183, a184, a185, a186, a187, a188, a189, a190))
          else
            if (decide (a183 > ((0 : Int)))) = true then
              some ((a157, a158, a159, (a160 == ((0 : Int))), a161, a162, a163, a164, a165, a166, a167, a168, a169, a170, a171, a172, a173, a174, a175, a176, a177, a178, a179, a180, a181, a182, a183, a184, a185, a186, a187, a188, a189, a190))
            else
              some ((a157, a158, a159, false, a161, a162, a163, a164, a165, a166, a167, a168, a169, a170, a171, a172, a173, a174, a175, a176, a177, a178, a179, a180, a181, a182, a183, a184, a185, a186, a187, a188, a189, a190))
        else
          if (decide (a183 > ((0 : Int)))) = true then
            some ((a157, a158, a159, (a160 == ((0 : Int))), a161, a162, a163, a164, a165, a166, a167, a168, a169, a170, a171, a172, a173, a174, a175, a176, a177, a178, a179, a180, a181, a182, a183, a184, a185, a186, a187, a188, a189, a190))
          else
            some ((a157, a158, a159, false, a161, a162, a163, a164, a165, a166, a167, a168, a169, a170, a171, a172, a173, a174, a175, a176, a177, a178, a179, a180, a181, a182, a183, a184, a185, a186, a187, a188, a189, a190))
      else
        some ((a157, a158, a159, false, a161, a162, a163, a164, a165, a166, a167, a168, a169, a170, a171, a172, a173, a174, a175, a176, a177, a178, a179, a180, a181, a182, a183, a184, a185, a186, a187, a188, a189, a190))) fun (x191, x192, x193, x194, x195, x196, x197, x198, x199, x200, x201, x202, x203, x204, x205, x206, x207, x208, x209, x210, x211, x212, x213, x214, x215, x216, x217, x218, x219, x220, x221, x222, x223, x224) =>
    Option.bind (α := (Int × Int × Int × (List Bool) × Int × Int × Int × Int × Int × Int × Int × Bool × Int × (List Int) × (List e0) × Int × Int × Int × Int × Int × Bool × Int × (List Int) × (List e0) × Int × Int × Int × Int × Int × Bool × Int × (List Int) × (List e0)) ⊕ (Int × Int × Int × (List Bool) × Int × Int × Int × Int × Int × Int × Int × Bool × Int × (List Int) × (List e0) × Int × Int × Int × Int × Int × Bool × Int × (List Int) × (List e0) × Int × Int × Int × Int × Int × Bool × Int × (List Int) × (List e0))) (
      if x194 = true then
        some ((.inl (x191, x192, x193, x195, x196, x197, x198, x199, x200, x201, x202, x203, x204, x205, x206, x207, x208, x209, x210, x211, x212, x213, x214, x215, x216, x217, x218, x219, x220, x221, x222, x223, x224)))
      else
        some ((.inr (x191, x192, x193, x195, x196, x197, x198, x199, x200, x201, x202, x203, x204, x205, x206, x207, x208, x209, x210, x211, x212, x213, x214, x215, x216, x217, x218, x219, x220, x221, x222, x223, x224)))) fun o => match o with
      | (.inl (x225, x226, x227, x228, x229, x230, x231, x232, x233, x234, x235, x236, x237, x238, x239, x240, x241, x242, x243, x244, x245, x246, x247, x248, x249, x250, x251, x252, x253, x254, x255, x256, x257)) =>
        if (decide (((addI .i64 x250 ((1 : Int)))) ≥ x226)) = true then
          some ((.inr ((5 : Int), x228, x229, x230, ([] : List Int), x240, x241, x242, x243, x244, x245, x246, x247, x248)))
        else
          (g_ref01_Reader_Take ((x228, x229, x230, (1 : Int)))).bind fun (x258, x259, x260, x261) =>
          again ((x225, x226, x227, x258, x259, x260, x261, x231, x232, x233, x234, x235, x236, x237, x238, x239, x240, x241, x242, x243, x244, x245, x246, x247, x248, x249, (addI .i64 x250 ((1 : Int))), x251, x252, x253, x254, x255, x256, x257))
      | (.inr (x262, x263, x264, x265, x266, x267, x268, x269, x270, x271, x272, x273, x274, x275, x276, x277, x278, x279, x280, x281, x282, x283, x284, x285, x286, x287, x288, x289, x290, x291, x292, x293, x294)) =>
        some ((.inl (x262, x263, x264, x265, x266, x267, x268, x269, x270, x271, x272, x273, x274, x275, x276, x277, x278, x279, x280, x281, x282, x283, x284, x285, x286, x287, x288, x289, x290, x291, x292, x293, x294)))
noncomputable def F_ref16_Take_23 : L_ref16_Take_23 := lfp (B_ref16_Take_23 f_ref01_Reader_Take)
abbrev S_ref16_Take_23 (l : L_ref16_Take_23) : LoopS := ⟨⟨.normal, [], [(0, .ptr 0 1 0), (1, vI), (2, vI), (7, .ptr 28672 0 0), (9, .ptr 36864 0 0), (12, .ptr 49152 0 0), (13, vI), (14, .val tU64)], [(0, 1, .box [.val (.slice tO), vI, vI]), (28672, 0, .box [vI, vI, vI, vI, vI, .lref 28678 0, vO, vI, .lref 28681 0]), (28678, 0, .own tI), (28681, 0, .own y0), (36864, 0, .box [vI, vI, vI, vI, vI, .lref 36870 0, vO, vI, .lref 36873 0]), (36870, 0, .own tI), (36873, 0, .own y0), (49152, 0, .box [vI, vI, vI, vI, vI, .lref 49158 0, vO, vI, .lref 49161 0]), (49158, 0, .own tI), (49161, 0, .own y0)], [tI, tI, tI, tU64, Ty.slice tO, tI, tI, tI, tI, tI, tI, tI, tO, tI, tL, Ty.slice y0, tI, tI, tI, tI, tI, tO, tI, tL, Ty.slice y0, tI, tI, tI, tI, tI, tO, tI, tL, Ty.slice y0]⟩, [⟨.exit 0, [], [(0, .ptr 0 1 0), (1, vI), (2, vI), (7, .ptr 28672 0 0), (9, .ptr 36864 0 0), (12, .ptr 49152 0 0), (13, vI)], [(0, 1, .box [.val (.slice tO), vI, vI]), (28672, 0, .box [vI, vI, vI, vI, vI, .lref 28678 0, vO, vI, .lref 28681 0]), (28678, 0, .own tI), (28681, 0, .own y0), (36864, 0, .box [vI, vI, vI, vI, vI, .lref 36870 0, vO, vI, .lref 36873 0]), (36870, 0, .own tI), (36873, 0, .own y0), (49152, 0, .box [vI, vI, vI, vI, vI, .lref 49158 0, vO, vI, .lref 49161 0]), (49158, 0, .own tI), (49161, 0, .own y0)], [tI, tI, tI, Ty.slice tO, tI, tI, tI, tI, tI, tI, tI, tO, tI, tL, Ty.slice y0, tI, tI, tI, tI, tI, tO, tI, tL, Ty.slice y0, tI, tI, tI, tI, tI, tO, tI, tL, Ty.slice y0]⟩, ⟨.ret, [], [(6, .lref 24576 0), (7, .ptr 28672 0 0), (8, vI)], [(0, 1, .box [.val (.slice tO), vI, vI]), (24576, 0, .own tI), (28672, 0, .box [vI, vI, vI, vI, vI, .lref 28678 0, vO, vI, .lref 28681 0]), (28678, 0, .own tI), (28681, 0, .own y0)], [tI, .slice tO, tI, tI, tL, tI, tI, tI, tI, tI, tO, tI, tL, .slice y0]⟩], l⟩
abbrev L_ref16_Take_36 := Int × Int × Int × Int × Int × (List Bool) × Int × Int × Int × Int × Int × Int × Int × Bool × Int × (List Int) × (List e0) × Int × Int × Int × Int × Int × Bool × Int × (List Int) × (List e0) × Int × Int × Int × Int × Int × Bool × Int × (List Int) × (List e0) × (List Int) → Option ((Int × Int × Int × (List Bool) × Int × Int × Int × Int × Int × Int × Int × Bool × Int × (List Int) × (List e0) × Int × Int × Int × Int × Int × Bool × Int × (List Int) × (List e0) × Int × Int × Int × Int × Int × Bool × Int × (List Int) × (List e0) × (List Int)) ⊕ (Int × (List Bool) × Int × Int × (List Int) × Int × Int × Int × Int × Int × Bool × Int × (List Int) × (List e0)))
def B_ref16_Take_36 (g_ref01_Reader_Take : G_ref01_Reader_Take) (g_ref15_Signed : G_ref15_Signed) (again : L_ref16_Take_36) : L_ref16_Take_36
  | (a344, a345, a346, a347, a348, a349, a350, a351, a352, a353, a354, a355, a356, a357, a358, a359, a360, a361, a362, a363, a364, a365, a366, a367, a368, a369, a370, a371, a372, a373, a374, a375, a376, a377, a378, a379) =>
    Option.bind (α := (Int × Int × Int × Int × Int × (List Bool) × Int × Int × Int × Int × Int × Int × Int × Bool × Int × (List Int) × (List e0) × Int × Int × Int × Int × Int × Bool × Int × (List Int) × (List e0) × Int × Int × Int × Int × Int × Bool × Int × (List Int) × (List e0) × (List Int)) ⊕ (Int × Int × Int × (List Bool) × Int × Int × Int × Int × Int × Int × Int × Bool × Int × (List Int) × (List e0) × Int × Int × Int × Int × Int × Bool × Int × (List Int) × (List e0) × Int × Int × Int × Int × Int × Bool × Int × (List Int) × (List e0) × (List Int))) (
      if (decide (a348 < a347)) = true then
        some ((.inl (a344, a345, a346, a347, a348, a349, a350, a351, a352, a353, a354, a355, a356, a357, a358, a359, a360, a361, a362, a363, a364, a365, a366, a367, a368, a369, a370, a371, a372, a373, a374, a375, a376, a377, a378, a379)))
      else
        some ((.inr (a344, a345, a346, a349, a350, a351, a352, a353, a354, a355, a356, a357, a358, a359, a360, a361, a362, a363, a364, a365, a366, a367, a368, a369, a370, a371, a372, a373, a374, a375, a376, a377, a378, a379)))) fun o => match o with
      | (.inl (x380, x381, x382, x383, x384, x385, x386, x387, x388, x389, x390, x391, x392, x393, x394, x395, x396, x397, x398, x399, x400, x401, x402, x403, x404, x405, x406, x407, x408, x409, x410, x411, x412, x413, x414, x415)) =>
        (g_ref01_Reader_Take ((x385, x386, x387, x382))).bind fun (x416, x417, x418, x419) =>
        if (x419 != ((0 : Int))) = true then
          some ((.inr (x419, x417, x418, x419, ([] : List Int), x397, x398, x399, x400, x401, x402, x403, x404, x405)))
        else
          (g_ref15_Signed ((x416, x382))).bind fun x420 =>
          (room (List.length x415 + List.length ((List.set (List.replicate 1 (0 : Int)) 0 x420)))).bind fun x421 =>
          again ((x380, x381, x382, x383, (addI .i64 x384 ((1 : Int))), x417, x418, x419, x388, x389, x390, x391, x392, x393, x394, x395, x396, x397, x398, x399, x400, x401, x402, x403, x404, x405, x406, x407, x408, x409, x410, x411, x412, x413, x414, (x415 ++ (List.set (List.replicate 1 (0 : Int)) 0 x420))))
      | (.inr (x422, x423, x424, x425, x426, x427, x428, x429, x430, x431, x432, x433, x434, x435, x436, x437, x438, x439, x440, x441, x442, x443, x444, x445, x446, x447, x448, x449, x450, x451, x452, x453, x454, x455)) =>
        some ((.inl (x422, x423, x424, x425, x426, x427, x428, x429, x430, x431, x432, x433, x434, x435, x436, x437, x438, x439, x440, x441, x442, x443, x444, x445, x446, x447, x448, x449, x450, x451, x452, x453, x454, x455)))
noncomputable def F_ref16_Take_36 : L_ref16_Take_36 := lfp (B_ref16_Take_36 f_ref01_Reader_Take f_ref15_Signed)
abbrev S_ref16_Take_36 (l : L_ref16_Take_36) : LoopS := ⟨⟨.normal, [], [(0, .ptr 0 1 0), (1, vI), (7, .ptr 28672 0 0), (9, .ptr 36864 0 0), (12, .ptr 49152 0 0), (13, vI), (15, vI), (16, vI), (17, .lref 69632 0), (18, vI)], [(0, 1, .box [.val (.slice tO), vI, vI]), (28672, 0, .box [vI, vI, vI, vI, vI, .lref 28678 0, vO, vI, .lref 28681 0]), (28678, 0, .own tI), (28681, 0, .own y0), (36864, 0, .box [vI, vI, vI, vI, vI, .lref 36870 0, vO, vI, .lref 36873 0]), (36870, 0, .own tI), (36873, 0, .own y0), (49152, 0, .box [vI, vI, vI, vI, vI, .lref 49158 0, vO, vI, .lref 49161 0]), (49158, 0, .own tI), (49161, 0, .own y0), (69632, 0, .own tI)], [tI, tI, tI, tI, tI, Ty.slice tO, tI, tI, tI, tI, tI, tI, tI, tO, tI, tL, Ty.slice y0, tI, tI, tI, tI, tI, tO, tI, tL, Ty.slice y0, tI, tI, tI, tI, tI, tO, tI, tL, Ty.slice y0, tL]⟩, [⟨.exit 2, [], [(0, .ptr 0 1 0), (1, vI), (7, .ptr 28672 0 0), (9, .ptr 36864 0 0), (12, .ptr 49152 0 0), (13, vI), (15, vI), (17, .lref 69632 0)], [(0, 1, .box [.val (.slice tO), vI, vI]), (28672, 0, .box [vI, vI, vI, vI, vI, .lref 28678 0, vO, vI, .lref 28681 0]), (28678, 0, .own tI), (28681, 0, .own y0), (36864, 0, .box [vI, vI, vI, vI, vI, .lref 36870 0, vO, vI, .lref 36873 0]), (36870, 0, .own tI), (36873, 0, .own y0), (49152, 0, .box [vI, vI, vI, vI, vI, .lref 49158 0, vO, vI, .lref 49161 0]), (49158, 0, .own tI), (49161, 0, .own y0), (69632, 0, .own tI)], [tI, tI, tI, Ty.slice tO, tI, tI, tI, tI, tI, tI, tI, tO, tI, tL, Ty.slice y0, tI, tI, tI, tI, tI, tO, tI, tL, Ty.slice y0, tI, tI, tI, tI, tI, tO, tI, tL, Ty.slice y0, tL]⟩, ⟨.ret, [], [(6, .lref 24576 0), (7, .ptr 28672 0 0), (8, vI)], [(0, 1, .box [.val (.slice tO), vI, vI]), (24576, 0, .own tI), (28672, 0, .box [vI, vI, vI, vI, vI, .lref 28678 0, vO, vI, .lref 28681 0]), (28678, 0, .own tI), (28681, 0, .own y0)], [tI, .slice tO, tI, tI, tL, tI, tI, tI, tI, tI, tO, tI, tL, .slice y0]⟩], l⟩
abbrev L_ref16_Take_42 := Int × Int × Int × (List Bool) × Int × Int × Int × Int × Int × Int × Int × Bool × Int × (List Int) × (List e0) × Int × Int × Int × Int × Int × Bool × Int × (List Int) × (List e0) × Int × Int × Int × Int × Int × Bool × Int × (List Int) × (List e0) × (List Int) → Option ((Int × Int × Int × (List Bool) × Int × Int × Int × Int × Int × Int × Int × Bool × Int × (List Int) × (List e0) × Int × Int × Int × Int × Int × Bool × Int × (List Int) × (List e0) × Int × Int × Int × Int × Int × Bool × Int × (List Int) × (List e0) × (List Int)))
def B_ref16_Take_42 (again : L_ref16_Take_42) : L_ref16_Take_42
  | (a504, a505, a506, a507, a508, a509, a510, a511, a512, a513, a514, a515, a516, a517, a518, a519, a520, a521, a522, a523, a524, a525, a526, a527, a528, a529, a530, a531, a532, a533, a534, a535, a536, a537) =>
    Option.bind (α := (Int × Int × Int × Bool × (List Bool) × Int × Int × Int × Int × Int × Int × Int × Bool × Int × (List Int) × (List e0) × Int × Int × Int × Int × Int × Bool × Int × (List Int) × (List e0) × Int × Int × Int × Int × Int × Bool × Int × (List Int) × (List e0) × (List Int))) (
      if (a528 == ((0 : Int))) = true then
        some ((a504, a505, a506, (decide ((((List.length a537 : Nat) : Int)) < a504)), a507, a508, a509, a510, a511, a512, a513, a514, a515, a516, a517, a518, a519, a520, a521, a522, a523, a524, a525, a526, a527, a528, a529, a530, a531, a532, a533, a534, a535, a536, a537))
      else
        some ((a504, a505, a506, false, a507, a508, a509, a510, a511, a512, a513, a514, a515, a516, a517, a518, a519, a520, a521, a522, a523, a524, a525, a526, a527, a528, a529, a530, a531, a532, a533, a534, a535, a536, a537))) fun (x538, x539, x540, x541, x542, x543, x544, x545, x546, x547, x548, x549, x550, x551, x552, x553, x554, x555, x556, x557, x558, x559, x560, x561, x562, x563, x564, x565, x566, x567, x568, x569, x570, x571, x572) =>
    Option.bind (α := (Int × Int × Int × (List Bool) × Int × Int × Int × Int × Int × Int × Int × Bool × Int × (List Int) × (List e0) × Int × Int × Int × Int × Int × Bool × Int × (List Int) × (List e0) × Int × Int × Int × Int × Int × Bool × Int × (List Int) × (List e0) × (List Int)) ⊕ (Int × Int × Int × (List Bool) × Int × Int × Int × Int × Int × Int × Int × Bool × Int × (List Int) × (List e0) × Int × Int × Int × Int × Int × Bool × Int × (List Int) × (List e0) × Int × Int × Int × Int × Int × Bool × Int × (List Int) × (List e0) × (List Int))) (
      if x541 = true then
        some ((.inl (x538, x539, x540, x542, x543, x544, x545, x546, x547, x548, x549, x550, x551, x552, x553, x554, x555, x556, x557, x558, x559, x560, x561, x562, x563, x564, x565, x566, x567, x568, x569, x570, x571, x572)))
      else
        some ((.inr (x538, x539, x540, x542, x543, x544, x545, x546, x547, x548, x549, x550, x551, x552, x553, x554, x555, x556, x557, x558, x559, x560, x561, x562, x563, x564, x565, x566, x567, x568, x569, x570, x571, x572)))) fun o => match o with
      | (.inl (x573, x574, x575, x576, x577, x578, x579, x580, x581, x582, x583, x584, x585, x586, x587, x588, x589, x590, x591, x592, x593, x594, x595, x596, x597, x598, x599, x600, x601, x602, x603, x604, x605, x606)) =>
        (inb ((0 : Int)) (List.length x606)).bind fun x607 =>
        (idx x606 ((0 : Int))).bind fun x608 =>
        (room (List.length x606 + List.length ((List.set (List.replicate 1 (0 : Int)) 0 x608)))).bind fun x609 =>
        again ((x573, x574, x575, x576, x577, x578, x579, x580, x581, x582, x583, x584, x585, x586, x587, x588, x589, x590, x591, x592, x593, x594, x595, x596, x597, x598, x599, x600, x601, x602, x603, x604, x605, (x606 ++ (List.set (List.replicate 1 (0 : Int)) 0 x608))))
      | (.inr (x610, x611, x612, x613, x614, x615, x616, x617, x618, x619, x620, x621, x622, x623, x624, x625, x626, x627, x628, x629, x630, x631, x632, x633, x634, x635, x636, x637, x638, x639, x640, x641, x642, x643)) =>
        some ((x610, x611, x612, x613, x614, x615, x616, x617, x618, x619, x620, x621, x622, x623, x624, x625, x626, x627, x628, x629, x630, x631, x632, x633, x634, x635, x636, x637, x638, x639, x640, x641, x642, x643))
noncomputable def F_ref16_Take_42 : L_ref16_Take_42 := lfp B_ref16_Take_42
abbrev S_ref16_Take_42 (l : L_ref16_Take_42) : LoopS := ⟨⟨.normal, [], [(0, .ptr 0 1 0), (1, vI), (7, .ptr 28672 0 0), (9, .ptr 36864 0 0), (12, .ptr 49152 0 0), (13, vI), (15, vI), (17, .lref 69632 0)], [(0, 1, .box [.val (.slice tO), vI, vI]), (28672, 0, .box [vI, vI, vI, vI, vI, .lref 28678 0, vO, vI, .lref 28681 0]), (28678, 0, .own tI), (28681, 0, .own y0), (36864, 0, .box [vI, vI, vI, vI, vI, .lref 36870 0, vO, vI, .lref 36873 0]), (36870, 0, .own tI), (36873, 0, .own y0), (49152, 0, .box [vI, vI, vI, vI, vI, .lref 49158 0, vO, vI, .lref 49161 0]), (49158, 0, .own tI), (49161, 0, .own y0), (69632, 0, .own tI)], [tI, tI, tI, Ty.slice tO, tI, tI, tI, tI, tI, tI, tI, tO, tI, tL, Ty.slice y0, tI, tI, tI, tI, tI, tO, tI, tL, Ty.slice y0, tI, tI, tI, tI, tI, tO, tI, tL, Ty.slice y0, tL]⟩, [⟨.exit 4, [], [(0, .ptr 0 1 0), (1, vI), (7, .ptr 28672 0 0), (9, .ptr 36864 0 0), (12, .ptr 49152 0 0), (13, vI), (15, vI), (17, .lref 69632 0)], [(0, 1, .box [.val (.slice tO), vI, vI]), (28672, 0, .box [vI, vI, vI, vI, vI, .lref 28678 0, vO, vI, .lref 28681 0]), (28678, 0, .own tI), (28681, 0, .own y0), (36864, 0, .box [vI, vI, vI, vI, vI, .lref 36870 0, vO, vI, .lref 36873 0]), (36870, 0, .own tI), (36873, 0, .own y0), (49152, 0, .box [vI, vI, vI, vI, vI, .lref 49158 0, vO, vI, .lref 49161 0]), (49158, 0, .own tI), (49161, 0, .own y0), (69632, 0, .own tI)], [tI, tI, tI, Ty.slice tO, tI, tI, tI, tI, tI, tI, tI, tO, tI, tL, Ty.slice y0, tI, tI, tI, tI, tI, tO, tI, tL, Ty.slice y0, tI, tI, tI, tI, tI, tO, tI, tL, Ty.slice y0, tL]⟩], l⟩
abbrev L_ref16_Take_53 := Int × Int × Int × Int × Int × (List Bool) × Int × Int × Int × Int × Int × Int × Int × Bool × Int × (List Int) × (List e0) × Int × Int × Int × Int × Int × Bool × Int × (List Int) × (List e0) × Int × Int × Int × Int × Int × Bool × Int × (List Int) × (List e0) × (List Int) → Option ((Int × Int × Int × (List Bool) × Int × Int × Int × Int × Int × Int × Int × Bool × Int × (List Int) × (List e0) × Int × Int × Int × Int × Int × Bool × Int × (List Int) × (List e0) × Int × Int × Int × Int × Int × Bool × Int × (List Int) × (List e0) × (List Int)))
def B_ref16_Take_53 (g_ref01_Reader_Take : G_ref01_Reader_Take) (g_ref15_Signed : G_ref15_Signed) (again : L_ref16_Take_53) : L_ref16_Take_53
  | (a759, a760, a761, a762, a763, a764, a765, a766, a767, a768, a769, a770, a771, a772, a773, a774, a775, a776, a777, a778, a779, a780, a781, a782, a783, a784, a785, a786, a787, a788, a789, a790, a791, a792, a793, a794) =>
    Option.bind (α := (Int × Int × Int × Int × Int × (List Bool) × Int × Int × Int × Int × Int × Int × Int × Bool × Int × (List Int) × (List e0) × Int × Int × Int × Int × Int × Bool × Int × (List Int) × (List e0) × Int × Int × Int × Int × Int × Bool × Int × (List Int) × (List e0) × (List Int)) ⊕ (Int × Int × Int × (List Bool) × Int × Int × Int × Int × Int × Int × Int × Bool × Int × (List Int) × (List e0) × Int × Int × Int × Int × Int × Bool × Int × (List Int) × (List e0) × Int × Int × Int × Int × Int × Bool × Int × (List Int) × (List e0) × (List Int))) (
      if (decide (a763 < a760)) = true then
        some ((.inl (a759, a760, a761, a762, a763, a764, a765, a766, a767, a768, a769, a770, a771, a772, a773, a774, a775, a776, a777, a778, a779, a780, a781, a782, a783, a784, a785, a786, a787, a788, a789, a790, a791, a792, a793, a794)))
      else
        some ((.inr (a759, a760, a761, a764, a765, a766, a767, a768, a769, a770, a771, a772, a773, a774, a775, a776, a777, a778, a779, a780, a781, a782, a783, a784, a785, a786, a787, a788, a789, a790, a791, a792, a793, a794)))) fun o => match o with
      | (.inl (x795, x796, x797, x798, x799, x800, x801, x802, x803, x804, x805, x806, x807, x808, x809, x810, x811, x812, x813, x814, x815, x816, x817, x818, x819, x820, x821, x822, x823, x824, x825, x826, x827, x828, x829, x830)) =>
        (g_ref01_Reader_Take ((x800, x801, x802, (addI .i64 x798 ((1 : Int)))))).bind fun (x831, x832, x833, x834) =>
        (g_ref15_Signed ((x831, (addI .i64 x798 ((1 : Int)))))).bind fun x835 =>
        (room (List.length x828 + List.length ((List.set (List.replicate 1 (0 : Int)) 0 x835)))).bind fun x836 =>
        again ((x795, x796, x797, x798, (addI .i64 x799 ((1 : Int))), x832, x833, x834, x803, x804, x805, x806, x807, x808, x809, x810, x811, x812, x813, x814, x815, x816, x817, x818, x819, x820, x821, x822, x823, x824, x825, x826, x827, (x828 ++ (List.set (List.replicate 1 (0 : Int)) 0 x835)), x829, x830))
      | (.inr (x837, x838, x839, x840, x841, x842, x843, x844, x845, x846, x847, x848, x849, x850, x851, x852, x853, x854, x855, x856, x857, x858, x859, x860, x861, x862, x863, x864, x865, x866, x867, x868, x869, x870)) =>
        some ((x837, x838, x839, x840, x841, x842, x843, x844, x845, x846, x847, x848, x849, x850, x851, x852, x853, x854, x855, x856, x857, x858, x859, x860, x861, x862, x863, x864, x865, x866, x867, x868, x869, x870))
noncomputable def F_ref16_Take_53 : L_ref16_Take_53 := lfp (B_ref16_Take_53 f_ref01_Reader_Take f_ref15_Signed)
abbrev S_ref16_Take_53 (l : L_ref16_Take_53) : LoopS := ⟨⟨.normal, [], [(0, .ptr 0 1 0), (1, vI), (7, .ptr 28672 0 0), (9, .ptr 36864 0 0), (12, .ptr 49152 0 0), (13, vI), (15, vI), (17, .lref 69632 0), (20, vI), (22, vI)], [(0, 1, .box [.val (.slice tO), vI, vI]), (28672, 0, .box [vI, vI, vI, vI, vI, .lref 28678 0, vO, vI, .lref 28681 0]), (28678, 0, .own tI), (28681, 0, .own y0), (36864, 0, .box [vI, vI, vI, vI, vI, .lref 36870 0, vO, vI, .lref 36873 0]), (36870, 0, .own tI), (36873, 0, .own y0), (49152, 0, .box [vI, vI, vI, vI, vI, .lref 49158 0, vO, vI, .lref 49161 0]), (49158, 0, .own tI), (49161, 0, .own y0), (69632, 0, .own tI)], [tI, tI, tI, tI, tI, Ty.slice tO, tI, tI, tI, tI, tI, tI, tI, tO, tI, tL, Ty.slice y0, tI, tI, tI, tI, tI, tO, tI, tL, Ty.slice y0, tI, tI, tI, tI, tI, tO, tI, tL, Ty.slice y0, tL]⟩, [⟨.exit 6, [], [(0, .ptr 0 1 0), (1, vI), (7, .ptr 28672 0 0), (9, .ptr 36864 0 0), (12, .ptr 49152 0 0), (13, vI), (15, vI), (17, .lref 69632 0)], [(0, 1, .box [.val (.slice tO), vI, vI]), (28672, 0, .box [vI, vI, vI, vI, vI, .lref 28678 0, vO, vI, .lref 28681 0]), (28678, 0, .own tI), (28681, 0, .own y0), (36864, 0, .box [vI, vI, vI, vI, vI, .lref 36870 0, vO, vI, .lref 36873 0]), (36870, 0, .own tI), (36873, 0, .own y0), (49152, 0, .box [vI, vI, vI, vI, vI, .lref 49158 0, vO, vI, .lref 49161 0]), (49158, 0, .own tI), (49161, 0, .own y0), (69632, 0, .own tI)], [tI, tI, tI, Ty.slice tO, tI, tI, tI, tI, tI, tI, tI, tO, tI, tL, Ty.slice y0, tI, tI, tI, tI, tI, tO, tI, tL, Ty.slice y0, tI, tI, tI, tI, tI, tO, tI, tL, Ty.slice y0, tL]⟩], l⟩
abbrev L_ref16_Take_67 := Int × Int × Int × (List Bool) × Int × Int × Int × Int × Int × Int × Int × Bool × Int × (List Int) × (List e0) × Int × Int × Int × Int × Int × Bool × Int × (List Int) × (List e0) × Int × Int × Int × Int × Int × Bool × Int × (List e0) × (List Int) × (List Int) × (List Int) → Option (((List Bool) × Int × Int × Int × Int × Int × Int × Int × Bool × Int × (List Int) × (List e0) × Int × Int × Int × Int × Int × Bool × Int × (List e0) × (List Int) × (List Int)) ⊕ (Int × (List Bool) × Int × Int × (List Int) × Int × Int × Int × Int × Int × Bool × Int × (List Int) × (List e0)))
def B_ref16_Take_67 (g_ref06_In : G_ref06_In) (g_ref07_Told : G_ref07_Told) (g_ref12_Told : G_ref12_Told) (again : L_ref16_Take_67) : L_ref16_Take_67
  | (a979, a980, a981, a982, a983, a984, a985, a986, a987, a988, a989, a990, a991, a992, a993, a994, a995, a996, a997, a998, a999, a1000, a1001, a1002, a1003, a1004, a1005, a1006, a1007, a1008, a1009, a1010, a1011, a1012, a1013) =>
    Option.bind (α := (Int × Int × Int × (List Bool) × Int × Int × Int × Int × Int × Int × Int × Bool × Int × (List Int) × (List e0) × Int × Int × Int × Int × Int × Bool × Int × (List Int) × (List e0) × Int × Int × Int × Int × Int × Bool × Int × (List e0) × (List Int) × (List Int) × (List Int)) ⊕ ((List Bool) × Int × Int × Int × Int × Int × Int × Int × Bool × Int × (List Int) × (List e0) × Int × Int × Int × Int × Int × Bool × Int × (List e0) × (List Int) × (List Int))) (
      if (decide (a981 < (((List.length a1013 : Nat) : Int)))) = true then
        some ((.inl (a979, a980, a981, a982, a983, a984, a985, a986, a987, a988, a989, a990, a991, a992, a993, a994, a995, a996, a997, a998, a999, a1000, a1001, a1002, a1003, a1004, a1005, a1006, a1007, a1008, a1009, a1010, a1011, a1012, a1013)))
      else
        some ((.inr (a982, a983, a984, a985, a986, a987, a988, a989, a990, a991, a992, a993, a1003, a1004, a1005, a1006, a1007, a1008, a1009, a1010, a1011, a1012)))) fun o => match o with
      | (.inl (x1014, x1015, x1016, x1017, x1018, x1019, x1020, x1021, x1022, x1023, x1024, x1025, x1026, x1027, x1028, x1029, x1030, x1031, x1032, x1033, x1034, x1035, x1036, x1037, x1038, x1039, x1040, x1041, x1042, x1043, x1044, x1045, x1046, x1047, x1048)) =>
        (g_ref07_Told ((x1047, ((List.length x1047 : Nat) : Int), x1014))).bind fun x1049 =>
        Option.bind (α := (Int × Int × Int × Int × (List Bool) × Int × Int × Int × Int × Int × Int × Int × Bool × Int × (List Int) × (List e0) × Int × Int × Int × Int × Int × Bool × Int × (List Int) × (List e0) × Int × Int × Int × Int × Int × Bool × Int × (List e0) × (List Int) × (List Int) × (List Int))) (
          if (x1038 == ((3 : Int))) = true then
            (g_ref12_Told ((x1047, ((List.length x1047 : Nat) : Int), (x1041, (x1042, (x1046, ())))))).bind fun x1050 =>
            some ((x1014, x1015, x1016, x1050, x1017, x1018, x1019, x1020, x1021, x1022, x1023, x1024, x1025, x1026, x1027, x1028, x1029, x1030, x1031, x1032, x1033, x1034, x1035, x1036, x1037, x1038, x1039, x1040, x1041, x1042, x1043, x1044, x1045, x1046, x1047, x1048))
          else
            some ((x1014, x1015, x1016, x1049, x1017, x1018, x1019, x1020, x1021, x1022, x1023, x1024, x1025, x1026, x1027, x1028, x1029, x1030, x1031, x1032, x1033, x1034, x1035, x1036, x1037, x1038, x1039, x1040, x1041, x1042, x1043, x1044, x1045, x1046, x1047, x1048))) fun (x1051, x1052, x1053, x1054, x1055, x1056, x1057, x1058, x1059, x1060, x1061, x1062, x1063, x1064, x1065, x1066, x1067, x1068, x1069, x1070, x1071, x1072, x1073, x1074, x1075, x1076, x1077, x1078, x1079, x1080, x1081, x1082, x1083, x1084, x1085, x1086) =>
        (inb x1053 (List.length x1086)).bind fun x1087 =>
        (idx x1086 x1053).bind fun x1088 =>
        (g_ref06_In (((addI .i64 x1088 x1054), x1052))).bind fun x1089 =>
        if (!x1089) = true then
          some ((.inr ((6 : Int), x1055, x1056, x1057, ([] : List Int), x1067, x1068, x1069, x1070, x1071, x1072, x1073, x1074, x1075)))
        else
          (room (List.length x1085 + List.length ((List.set (List.replicate 1 (0 : Int)) 0 ((addI .i64 x1088 x1054)))))).bind fun x1090 =>
          again ((x1051, x1052, (addI .i64 x1053 ((1 : Int))), x1055, x1056, x1057, x1058, x1059, x1060, x1061, x1062, x1063, x1064, x1065, x1066, x1067, x1068, x1069, x1070, x1071, x1072, x1073, x1074, x1075, x1076, x1077, x1078, x1079, x1080, x1081, x1082, x1083, x1084, (x1085 ++ (List.set (List.replicate 1 (0 : Int)) 0 ((addI .i64 x1088 x1054)))), x1086))
      | (.inr (x1091, x1092, x1093, x1094, x1095, x1096, x1097, x1098, x1099, x1100, x1101, x1102, x1103, x1104, x1105, x1106, x1107, x1108, x1109, x1110, x1111, x1112)) =>
        some ((.inl (x1091, x1092, x1093, x1094, x1095, x1096, x1097, x1098, x1099, x1100, x1101, x1102, x1103, x1104, x1105, x1106, x1107, x1108, x1109, x1110, x1111, x1112)))
noncomputable def F_ref16_Take_67 : L_ref16_Take_67 := lfp (B_ref16_Take_67 f_ref06_In f_ref07_Told f_ref12_Told)
abbrev S_ref16_Take_67 (l : L_ref16_Take_67) : LoopS := ⟨⟨.normal, [], [(7, .ptr 28672 0 0), (9, .ptr 36864 0 0), (12, .ptr 49152 0 0), (13, vI), (15, vI), (17, .lref 69632 0), (24, .lref 98304 0), (27, vI)], [(0, 1, .box [.val (.slice tO), vI, vI]), (28672, 0, .box [vI, vI, vI, vI, vI, .lref 28678 0, vO, vI, .lref 28681 0]), (28678, 0, .own tI), (28681, 0, .own y0), (36864, 0, .box [vI, vI, vI, vI, vI, .lref 36870 0, vO, vI, .lref 36873 0]), (36870, 0, .own tI), (36873, 0, .own y0), (49152, 0, .box [vI, vI, vI, vI, vI, .lref 49158 0, vO, vI, .val (.slice y0)]), (49158, 0, vL), (69632, 0, .own tI), (98304, 0, .own tI)], [tI, tI, tI, Ty.slice tO, tI, tI, tI, tI, tI, tI, tI, tO, tI, tL, Ty.slice y0, tI, tI, tI, tI, tI, tO, tI, tL, Ty.slice y0, tI, tI, tI, tI, tI, tO, tI, Ty.slice y0, tL, tL, tL]⟩, [⟨.exit 8, [], [(7, .ptr 28672 0 0), (12, .ptr 49152 0 0), (17, .lref 69632 0)], [(0, 1, .box [.val (.slice tO), vI, vI]), (28672, 0, .box [vI, vI, vI, vI, vI, .lref 28678 0, vO, vI, .lref 28681 0]), (28678, 0, .own tI), (28681, 0, .own y0), (49152, 0, .box [vI, vI, vI, vI, vI, .lref 49158 0, vO, vI, .val (.slice y0)]), (49158, 0, vL), (69632, 0, .own tI)], [Ty.slice tO, tI, tI, tI, tI, tI, tI, tI, tO, tI, tL, Ty.slice y0, tI, tI, tI, tI, tI, tO, tI, Ty.slice y0, tL, tL]⟩, ⟨.ret, [], [(6, .lref 24576 0), (7, .ptr 28672 0 0), (8, vI)], [(0, 1, .box [.val (.slice tO), vI, vI]), (24576, 0, .own tI), (28672, 0, .box [vI, vI, vI, vI, vI, .lref 28678 0, vO, vI, .lref 28681 0]), (28678, 0, .own tI), (28681, 0, .own y0)], [tI, .slice tO, tI, tI, tL, tI, tI, tI, tI, tI, tO, tI, tL, .slice y0]⟩], l⟩
abbrev L_ref16_Take_78 := Int × (List Bool) × Int × Int × Int × Int × Int × Int × Int × Bool × Int × (List Int) × (List e0) × Int × Int × Int × Int × Int × Bool × Int × (List e0) × (List Int) × (List Int) → Option (((List Bool) × Int × Int × Int × Int × Int × Int × Int × Bool × Int × (List Int) × (List e0) × Int × Int × Int × Int × Int × Bool × Int × (List e0) × (List Int) × (List Int)))
def B_ref16_Take_78 (g_ref06_Power : G_ref06_Power) (again : L_ref16_Take_78) : L_ref16_Take_78
  | (a1171, a1172, a1173, a1174, a1175, a1176, a1177, a1178, a1179, a1180, a1181, a1182, a1183, a1184, a1185, a1186, a1187, a1188, a1189, a1190, a1191, a1192, a1193) =>
    Option.bind (α := (Int × (List Bool) × Int × Int × Int × Int × Int × Int × Int × Bool × Int × (List Int) × (List e0) × Int × Int × Int × Int × Int × Bool × Int × (List e0) × (List Int) × (List Int)) ⊕ ((List Bool) × Int × Int × Int × Int × Int × Int × Int × Bool × Int × (List Int) × (List e0) × Int × Int × Int × Int × Int × Bool × Int × (List e0) × (List Int) × (List Int))) (
      if (decide (a1171 < (((List.length a1193 : Nat) : Int)))) = true then
        some ((.inl (a1171, a1172, a1173, a1174, a1175, a1176, a1177, a1178, a1179, a1180, a1181, a1182, a1183, a1184, a1185, a1186, a1187, a1188, a1189, a1190, a1191, a1192, a1193)))
      else
        some ((.inr (a1172, a1173, a1174, a1175, a1176, a1177, a1178, a1179, a1180, a1181, a1182, a1183, a1184, a1185, a1186, a1187, a1188, a1189, a1190, a1191, a1192, a1193)))) fun o => match o with
      | (.inl (x1194, x1195, x1196, x1197, x1198, x1199, x1200, x1201, x1202, x1203, x1204, x1205, x1206, x1207, x1208, x1209, x1210, x1211, x1212, x1213, x1214, x1215, x1216)) =>
        (inb x1194 (List.length x1216)).bind fun x1217 =>
        (idx x1216 x1194).bind fun x1218 =>
        (g_ref06_Power x1208).bind fun x1219 =>
        (inb x1194 (List.length x1216)).bind fun x1220 =>
        (idx x1216 x1194).bind fun x1221 =>
        again (((addI .i64 x1194 ((1 : Int))), x1195, x1196, x1197, x1198, x1199, x1200, x1201, x1202, x1203, x1204, x1205, x1206, x1207, x1208, x1209, x1210, x1211, x1212, x1213, x1214, x1215, (List.set x1216 (Int.toNat x1194) ((mulI .i64 x1218 x1219)))))
      | (.inr (x1222, x1223, x1224, x1225, x1226, x1227, x1228, x1229, x1230, x1231, x1232, x1233, x1234, x1235, x1236, x1237, x1238, x1239, x1240, x1241, x1242, x1243)) =>
        some ((x1222, x1223, x1224, x1225, x1226, x1227, x1228, x1229, x1230, x1231, x1232, x1233, x1234, x1235, x1236, x1237, x1238, x1239, x1240, x1241, x1242, x1243))
noncomputable def F_ref16_Take_78 : L_ref16_Take_78 := lfp (B_ref16_Take_78 f_ref06_Power)
abbrev S_ref16_Take_78 (l : L_ref16_Take_78) : LoopS := ⟨⟨.normal, [], [(7, .ptr 28672 0 0), (12, .ptr 49152 0 0), (17, .lref 69632 0), (31, vI)], [(0, 1, .box [.val (.slice tO), vI, vI]), (28672, 0, .box [vI, vI, vI, vI, vI, .lref 28678 0, vO, vI, .lref 28681 0]), (28678, 0, .own tI), (28681, 0, .own y0), (49152, 0, .box [vI, vI, vI, vI, vI, .lref 49158 0, vO, vI, .val (.slice y0)]), (49158, 0, vL), (69632, 0, .own tI)], [tI, Ty.slice tO, tI, tI, tI, tI, tI, tI, tI, tO, tI, tL, Ty.slice y0, tI, tI, tI, tI, tI, tO, tI, Ty.slice y0, tL, tL]⟩, [⟨.exit 10, [], [(7, .ptr 28672 0 0), (12, .ptr 49152 0 0), (17, .lref 69632 0)], [(0, 1, .box [.val (.slice tO), vI, vI]), (28672, 0, .box [vI, vI, vI, vI, vI, .lref 28678 0, vO, vI, .lref 28681 0]), (28678, 0, .own tI), (28681, 0, .own y0), (49152, 0, .box [vI, vI, vI, vI, vI, .lref 49158 0, vO, vI, .val (.slice y0)]), (49158, 0, vL), (69632, 0, .own tI)], [Ty.slice tO, tI, tI, tI, tI, tI, tI, tI, tO, tI, tL, Ty.slice y0, tI, tI, tI, tI, tI, tO, tI, Ty.slice y0, tL, tL]⟩], l⟩
def F_ref16_Take (g_ref01_Reader_Take : G_ref01_Reader_Take) (g_ref15_Take : G_ref15_Take) (l_23 : L_ref16_Take_23) (l_36 : L_ref16_Take_36) (l_42 : L_ref16_Take_42) (l_53 : L_ref16_Take_53) (l_67 : L_ref16_Take_67) (l_78 : L_ref16_Take_78) : G_ref16_Take
  | (p1, p2, p3, p4, p5) =>
    Option.bind (α := (Int × Int × Bool × (List Bool) × Int × Int × Int × Int × Int × Int × Int × Bool × Int × (List Int) × (List e0) × Int × Int × Int × Int × Int × Bool × Int × (List Int) × (List e0))) (
      if (decide (p5 < ((4 : Int)))) = true then
        some ((p4, p5, true, p1, p2, p3, (0 : Int), (0 : Int), (0 : Int), (0 : Int), (0 : Int), false, (0 : Int), ([] : List Int), ([] : List e0), (0 : Int), (0 : Int), (0 : Int), (0 : Int), (0 : Int), false, (0 : Int), ([] : List Int), ([] : List e0)))
      else
        if (decide (p5 > ((33 : Int)))) = true then
          some ((p4, p5, true, p1, p2, p3, (0 : Int), (0 : Int), (0 : Int), (0 : Int), (0 : Int), false, (0 : Int), ([] : List Int), ([] : List e0), (0 : Int), (0 : Int), (0 : Int), (0 : Int), (0 : Int), false, (0 : Int), ([] : List Int), ([] : List e0)))
        else
          if (decide (p4 < ((1 : Int)))) = true then
            some ((p4, p5, true, p1, p2, p3, (0 : Int), (0 : Int), (0 : Int), (0 : Int), (0 : Int), false, (0 : Int), ([] : List Int), ([] : List e0), (0 : Int), (0 : Int), (0 : Int), (0 : Int), (0 : Int), false, (0 : Int), ([] : List Int), ([] : List e0)))
          else
            some ((p4, p5, (decide (p4 > ((65535 : Int)))), p1, p2, p3, (0 : Int), (0 : Int), (0 : Int), (0 : Int), (0 : Int), false, (0 : Int), ([] : List Int), ([] : List e0), (0 : Int), (0 : Int), (0 : Int), (0 : Int), (0 : Int), false, (0 : Int), ([] : List Int), ([] : List e0)))) fun (x6, x7, x8, x9, x10, x11, x12, x13, x14, x15, x16, x17, x18, x19, x20, x21, x22, x23, x24, x25, x26, x27, x28, x29) =>
    if x8 = true then
      some ((([] : List Int), (x21, (x22, (x23, ((x24, (x25, (x28, ()))), ((x26, (x27, (x29, ()))), ()))))), (1 : Int), x9, x10, x11))
    else
      (g_ref01_Reader_Take ((x9, x10, x11, (1 : Int)))).bind fun (x30, x31, x32, x33) =>
      if (x33 != ((0 : Int))) = true then
        some ((([] : List Int), (x21, (x22, (x23, ((x24, (x25, (x28, ()))), ((x26, (x27, (x29, ()))), ()))))), x33, x31, x32, x33))
      else
        if (x30 == ((1 : Int))) = true then
          some ((([] : List Int), (x21, (x22, (x23, ((x24, (x25, (x28, ()))), ((x26, (x27, (x29, ()))), ()))))), (5 : Int), x31, x32, x33))
        else
          (g_ref01_Reader_Take ((x31, x32, x33, (6 : Int)))).bind fun (x34, x35, x36, x37) =>
          if (x37 != ((0 : Int))) = true then
            some ((([] : List Int), (x21, (x22, (x23, ((x24, (x25, (x28, ()))), ((x26, (x27, (x29, ()))), ()))))), x37, x35, x36, x37))
          else
            Option.bind (α := (Int × Int × Int × Int × Bool × (List Bool) × Int × Int × Int × Int × Int × Int × Int × Bool × Int × (List Int) × (List e0) × Int × Int × Int × Int × Int × Bool × Int × (List Int) × (List e0) × Int × Int × Int × Int × Int × Bool × Int × (List Int) × (List e0))) (
              if (decide (((IntKind.wrap .i64 x34)) ≥ ((8 : Int)))) = true then
                some ((x6, x7, (IntKind.wrap .i64 x34), (0 : Int), (decide (((IntKind.wrap .i64 x34)) ≤ ((12 : Int)))), x35, x36, x37, x12, x13, x14, x15, x16, x17, x18, x19, x20, x21, x22, x23, x24, x25, x26, x27, x28, x29, (IntKind.wrap .i64 x34), (0 : Int), (0 : Int), (0 : Int), (0 : Int), false, (0 : Int), ([] : List Int), ([] : List e0)))
              else
                some ((x6, x7, (IntKind.wrap .i64 x34), (0 : Int), false, x35, x36, x37, x12, x13, x14, x15, x16, x17, x18, x19, x20, x21, x22, x23, x24, x25, x26, x27, x28, x29, (IntKind.wrap .i64 x34), (0 : Int), (0 : Int), (0 : Int), (0 : Int), false, (0 : Int), ([] : List Int), ([] : List e0)))) fun (x38, x39, x40, x41, x42, x43, x44, x45, x46, x47, x48, x49, x50, x51, x52, x53, x54, x55, x56, x57, x58, x59, x60, x61, x62, x63, x64, x65, x66, x67, x68, x69, x70, x71, x72) =>
            Option.bind (α := (Int × Int × Int × (List Bool) × Int × Int × Int × Int × Int × Int × Int × Bool × Int × (List Int) × (List e0) × Int × Int × Int × Int × Int × Bool × Int × (List Int) × (List e0) × Int × Int × Int × Int × Int × Bool × Int × (List Int) × (List e0)) ⊕ (Int × (List Bool) × Int × Int × (List Int) × Int × Int × Int × Int × Int × Bool × Int × (List Int) × (List e0))) (
              if x42 = true then
                some ((.inl (x38, x39, (subI .i64 x40 ((8 : Int))), x43, x44, x45, x46, x47, x48, x49, x50, x51, x52, x53, x54, x55, x56, x57, x58, x59, x60, x61, x62, x63, (2 : Int), x65, x66, x67, x68, x69, x70, x71, x72)))
              else
                Option.bind (α := (Int × Int × Int × (List Bool) × Int × Int × Int × Int × Int × Int × Int × Bool × Int × (List Int) × (List e0) × Int × Int × Int × Int × Int × Bool × Int × (List Int) × (List e0) × Int × Int × Int × Int × Int × Bool × Int × (List Int) × (List e0)) ⊕ (Int × (List Bool) × Int × Int × (List Int) × Int × Int × Int × Int × Int × Bool × Int × (List Int) × (List e0))) (
                  if (decide (x40 ≥ ((32 : Int)))) = true then
                    some ((.inl (x38, x39, (subI .i64 x40 ((31 : Int))), x43, x44, x45, x46, x47, x48, x49, x50, x51, x52, x53, x54, x55, x56, x57, x58, x59, x60, x61, x62, x63, (3 : Int), x65, x66, x67, x68, x69, x70, x71, x72)))
                  else
                    if (decide (x40 > ((1 : Int)))) = true then
                      some ((.inr ((8 : Int), x43, x44, x45, ([] : List Int), x55, x56, x57, x58, x59, x60, x61, x62, x63)))
                    else
                      some ((.inl (x38, x39, x41, x43, x44, x45, x46, x47, x48, x49, x50, x51, x52, x53, x54, x55, x56, x57, x58, x59, x60, x61, x62, x63, x64, x65, x66, x67, x68, x69, x70, x71, x72)))) fun o => match o with
                  | (.inl (x73, x74, x75, x76, x77, x78, x79, x80, x81, x82, x83, x84, x85, x86, x87, x88, x89, x90, x91, x92, x93, x94, x95, x96, x97, x98, x99, x100, x101, x102, x103, x104, x105)) =>
                    some ((.inl (x73, x74, x75, x76, x77, x78, x79, x80, x81, x82, x83, x84, x85, x86, x87, x88, x89, x90, x91, x92, x93, x94, x95, x96, x97, x98, x99, x100, x101, x102, x103, x104, x105)))
                  | (.inr (x106, x107, x108, x109, x110, x111, x112, x113, x114, x115, x116, x117, x118, x119)) =>
                    some ((.inr (x106, x107, x108, x109, x110, x111, x112, x113, x114, x115, x116, x117, x118, x119)))) fun o => match o with
              | (.inl (x120, x121, x122, x123, x124, x125, x126, x127, x128, x129, x130, x131, x132, x133, x134, x135, x136, x137, x138, x139, x140, x141, x142, x143, x144, x145, x146, x147, x148, x149, x150, x151, x152)) =>
                (g_ref01_Reader_Take ((x123, x124, x125, (1 : Int)))).bind fun (x153, x154, x155, x156) =>
                Option.bind (α := (Int × Int × Int × (List Bool) × Int × Int × Int × Int × Int × Int × Int × Bool × Int × (List Int) × (List e0) × Int × Int × Int × Int × Int × Bool × Int × (List Int) × (List e0) × Int × Int × Int × Int × Int × Bool × Int × (List Int) × (List e0)) ⊕ (Int × (List Bool) × Int × Int × (List Int) × Int × Int × Int × Int × Int × Bool × Int × (List Int) × (List e0))) (
                  l_23 ((x120, x121, x122, x153, x154, x155, x156, x126, x127, x128, x129, x130, x131, x132, x133, x134, x135, x136, x137, x138, x139, x140, x141, x142, x143, x144, x145, x146, x147, x148, x149, x150, x151, x152))) fun o => match o with
                  | (.inl (x295, x296, x297, x298, x299, x300, x301, x302, x303, x304, x305, x306, x307, x308, x309, x310, x311, x312, x313, x314, x315, x316, x317, x318, x319, x320, x321, x322, x323, x324, x325, x326, x327)) =>
                    if (x300 != ((0 : Int))) = true then
                      some ((([] : List Int), (x310, (x311, (x312, ((x313, (x314, (x317, ()))), ((x315, (x316, (x318, ()))), ()))))), x300, x298, x299, x300))
                    else
                      if (decide (x297 ≥ x295)) = true then
                        some ((([] : List Int), (x310, (x311, (x312, ((x313, (x314, (x317, ()))), ((x315, (x316, (x318, ()))), ()))))), (5 : Int), x298, x299, x300))
                      else
                        (inb x319 (List.length ((List.set (List.set (List.set (List.set (List.replicate 4 (0 : Int)) 0 ((1 : Int))) 1 x295) 2 x297) 3 x297)))).bind fun x342 =>
                        (idx ((List.set (List.set (List.set (List.set (List.replicate 4 (0 : Int)) 0 ((1 : Int))) 1 x295) 2 x297) 3 x297)) x319).bind fun x343 =>
                        Option.bind (α := (Int × Int × Int × (List Bool) × Int × Int × Int × Int × Int × Int × Int × Bool × Int × (List Int) × (List e0) × Int × Int × Int × Int × Int × Bool × Int × (List Int) × (List e0) × Int × Int × Int × Int × Int × Bool × Int × (List Int) × (List e0) × (List Int)) ⊕ (Int × (List Bool) × Int × Int × (List Int) × Int × Int × Int × Int × Int × Bool × Int × (List Int) × (List e0))) (
                          l_36 ((x295, x297, (subI .i64 x296 x320), x343, (0 : Int), x298, x299, x300, x301, x302, x303, x304, x305, x306, x307, x308, x309, x310, x311, x312, x313, x314, x315, x316, x317, x318, x319, x320, x321, x322, x323, x324, x325, x326, x327, ([] : List Int)))) fun o => match o with
                          | (.inl (x456, x457, x458, x459, x460, x461, x462, x463, x464, x465, x466, x467, x468, x469, x470, x471, x472, x473, x474, x475, x476, x477, x478, x479, x480, x481, x482, x483, x484, x485, x486, x487, x488, x489)) =>
                            Option.bind (α := (Int × Int × Int × (List Bool) × Int × Int × Int × Int × Int × Int × Int × Bool × Int × (List Int) × (List e0) × Int × Int × Int × Int × Int × Bool × Int × (List Int) × (List e0) × Int × Int × Int × Int × Int × Bool × Int × (List Int) × (List e0) × (List Int))) (
                              l_42 ((x456, x457, x458, x459, x460, x461, x462, x463, x464, x465, x466, x467, x468, x469, x470, x471, x472, x473, x474, x475, x476, x477, x478, x479, x480, x481, x482, x483, x484, x485, x486, x487, x488, x489))) fun (x644, x645, x646, x647, x648, x649, x650, x651, x652, x653, x654, x655, x656, x657, x658, x659, x660, x661, x662, x663, x664, x665, x666, x667, x668, x669, x670, x671, x672, x673, x674, x675, x676, x677) =>
                            Option.bind (α := (Int × Int × Int × (List Bool) × Int × Int × Int × Int × Int × Int × Int × Bool × Int × (List Int) × (List e0) × Int × Int × Int × Int × Int × Bool × Int × (List Int) × (List e0) × Int × Int × Int × Int × Int × Bool × Int × (List Int) × (List e0) × (List Int)) ⊕ (Int × (List Bool) × Int × Int × (List Int) × Int × Int × Int × Int × Int × Bool × Int × (List Int) × (List e0))) (
                              if (x668 == ((3 : Int))) = true then
                                (g_ref01_Reader_Take ((x647, x648, x649, (4 : Int)))).bind fun (x678, x679, x680, x681) =>
                                Option.bind (α := (Int × Int × Int × Int × Bool × (List Bool) × Int × Int × Int × Int × Int × Int × Int × Bool × Int × (List Int) × (List e0) × Int × Int × Int × Int × Int × Bool × Int × (List Int) × (List e0) × Int × Int × Int × Int × Int × Bool × Int × (List Int) × (List e0) × (List Int))) (
                                  if (x681 == ((0 : Int))) = true then
                                    some ((x644, x645, x646, (IntKind.wrap .i64 x678), (((IntKind.wrap .i64 x678)) == ((15 : Int))), x679, x680, x681, x650, x651, x652, x653, x654, x655, x656, x657, x658, x659, x660, x661, x662, x663, x664, x665, x666, x667, x668, x669, x670, x671, x672, x673, x674, x675, x676, x677))
                                  else
                                    some ((x644, x645, x646, (IntKind.wrap .i64 x678), false, x679, x680, x681, x650, x651, x652, x653, x654, x655, x656, x657, x658, x659, x660, x661, x662, x663, x664, x665, x666, x667, x668, x669, x670, x671, x672, x673, x674, x675, x676, x677))) fun (x682, x683, x684, x685, x686, x687, x688, x689, x690, x691, x692, x693, x694, x695, x696, x697, x698, x699, x700, x701, x702, x703, x704, x705, x706, x707, x708, x709, x710, x711, x712, x713, x714, x715, x716, x717) =>
                                if x686 = true then
                                  some ((.inr ((5 : Int), x687, x688, x689, ([] : List Int), x699, x700, x701, x702, x703, x704, x705, x706, x707)))
                                else
                                  (g_ref01_Reader_Take ((x687, x688, x689, (5 : Int)))).bind fun (x718, x719, x720, x721) =>
                                  Option.bind (α := (Int × Int × Int × Int × Int × Bool × (List Bool) × Int × Int × Int × Int × Int × Int × Int × Bool × Int × (List Int) × (List e0) × Int × Int × Int × Int × Int × Bool × Int × (List Int) × (List e0) × Int × Int × Int × Int × Int × Bool × Int × (List Int) × (List e0) × (List Int))) (
                                    if (x721 == ((0 : Int))) = true then
                                      some ((x682, x683, x684, x685, (IntKind.wrap .i64 x718), (decide (((IntKind.wrap .i64 x718)) > ((15 : Int)))), x719, x720, x721, x690, x691, x692, x693, x694, x695, x696, x697, x698, x699, x700, x701, x702, x703, x704, x705, x706, x707, x708, x709, x710, x711, x712, x713, x714, x715, x716, x717))
                                    else
                                      some ((x682, x683, x684, x685, (IntKind.wrap .i64 x718), false, x719, x720, x721, x690, x691, x692, x693, x694, x695, x696, x697, x698, x699, x700, x701, x702, x703, x704, x705, x706, x707, x708, x709, x710, x711, x712, x713, x714, x715, x716, x717))) fun (x722, x723, x724, x725, x726, x727, x728, x729, x730, x731, x732, x733, x734, x735, x736, x737, x738, x739, x740, x741, x742, x743, x744, x745, x746, x747, x748, x749, x750, x751, x752, x753, x754, x755, x756, x757, x758) =>
                                  if x727 = true then
                                    some ((.inr ((5 : Int), x728, x729, x730, ([] : List Int), x740, x741, x742, x743, x744, x745, x746, x747, x748)))
                                  else
                                    Option.bind (α := (Int × Int × Int × (List Bool) × Int × Int × Int × Int × Int × Int × Int × Bool × Int × (List Int) × (List e0) × Int × Int × Int × Int × Int × Bool × Int × (List Int) × (List e0) × Int × Int × Int × Int × Int × Bool × Int × (List Int) × (List e0) × (List Int))) (
                                      l_53 ((x722, x723, x724, x725, (0 : Int), x728, x729, x730, x731, x732, x733, x734, x735, x736, x737, x738, x739, x740, x741, x742, x743, x744, x745, x746, x747, x748, x749, x750, x751, x726, (addI .i64 x725 ((1 : Int))), x754, x755, ([] : List Int), x757, x758))) fun (x871, x872, x873, x874, x875, x876, x877, x878, x879, x880, x881, x882, x883, x884, x885, x886, x887, x888, x889, x890, x891, x892, x893, x894, x895, x896, x897, x898, x899, x900, x901, x902, x903, x904) =>
                                    if (x876 != ((0 : Int))) = true then
                                      some ((.inr (x876, x874, x875, x876, ([] : List Int), x886, x887, x888, x889, x890, x891, x892, x893, x894)))
                                    else
                                      some ((.inl (x871, x872, x873, x874, x875, x876, x877, x878, x879, x880, x881, x882, x883, x884, x885, x886, x887, x888, x889, x890, x891, x892, x893, x894, x895, x896, x897, x898, x899, x900, x901, x902, x903, x904)))
                              else
                                some ((.inl (x644, x645, x646, x647, x648, x649, x650, x651, x652, x653, x654, x655, x656, x657, x658, x659, x660, x661, x662, x663, x664, x665, x666, x667, x668, x669, x670, x671, x672, x673, x674, x675, x676, x677)))) fun o => match o with
                              | (.inl (x905, x906, x907, x908, x909, x910, x911, x912, x913, x914, x915, x916, x917, x918, x919, x920, x921, x922, x923, x924, x925, x926, x927, x928, x929, x930, x931, x932, x933, x934, x935, x936, x937, x938)) =>
                                Option.bind (α := ((List Bool) × Int × Int × Int × Int × Int × Int × Int × Bool × Int × (List Int) × (List e0) × Int × Int × Int × Int × Int × Bool × Int × (List e0) × (List Int) × (List Int)) ⊕ (Int × (List Bool) × Int × Int × (List Int) × Int × Int × Int × Int × Int × Bool × Int × (List Int) × (List e0))) (
                                  if (decide (x929 ≥ ((2 : Int)))) = true then
                                    (g_ref15_Take ((x908, x909, x910, x905, x906))).bind fun (x939, x940, x941, x942, x943, x944) =>
                                    if (x941 != ((0 : Int))) = true then
                                      some ((.inr (x941, x942, x943, x944, ([] : List Int), x920, x921, x922, x923, x924, x925, x926, x927, x928)))
                                    else
                                      Option.bind (α := (Int × Int × (List Bool) × Int × Int × Int × Int × Int × Int × Int × Bool × Int × (List Int) × (List e0) × Int × Int × Int × Int × Int × Bool × Int × (List Int) × (List e0) × Int × Int × Int × Int × Int × Bool × Int × (List e0) × (List Int) × (List Int) × (List Int))) (
                                        if (x929 == ((2 : Int))) = true then
                                          some ((x906, x907, x942, x943, x944, x911, x912, x913, x914, x915, x916, x917, x918, x919, x920, x921, x922, x923, x924, x925, x926, x927, x928, x929, x930, x906, x932, x933, x940.1, x940.2.1, x940.2.2.1, x936, x938, x939))
                                        else
                                          some ((x906, x907, x942, x943, x944, x911, x912, x913, x914, x915, x916, x917, x918, x919, x920, x921, x922, x923, x924, x925, x926, x927, x928, x929, x930, x931, x932, x933, x940.1, x940.2.1, x940.2.2.1, x936, x938, x939))) fun (x945, x946, x947, x948, x949, x950, x951, x952, x953, x954, x955, x956, x957, x958, x959, x960, x961, x962, x963, x964, x965, x966, x967, x968, x969, x970, x971, x972, x973, x974, x975, x976, x977, x978) =>
                                      Option.bind (α := ((List Bool) × Int × Int × Int × Int × Int × Int × Int × Bool × Int × (List Int) × (List e0) × Int × Int × Int × Int × Int × Bool × Int × (List e0) × (List Int) × (List Int)) ⊕ (Int × (List Bool) × Int × Int × (List Int) × Int × Int × Int × Int × Int × Bool × Int × (List Int) × (List e0))) (
                                        l_67 ((x945, x946, (0 : Int), x947, x948, x949, x950, x951, x952, x953, x954, x955, x956, x957, x958, x959, x960, x961, x962, x963, x964, x965, x966, x967, x968, x969, x970, x971, x972, x973, x974, x975, x976, x977, x978))) fun o => match o with
                                        | (.inl (x1113, x1114, x1115, x1116, x1117, x1118, x1119, x1120, x1121, x1122, x1123, x1124, x1125, x1126, x1127, x1128, x1129, x1130, x1131, x1132, x1133, x1134)) =>
                                          some ((.inl (x1113, x1114, x1115, x1116, x1117, x1118, x1119, x1120, x1121, x1122, x1123, x1124, x1125, x1126, x1127, x1128, x1129, x1130, x1131, x1132, x1133, x1134)))
                                        | (.inr (x1135, x1136, x1137, x1138, x1139, x1140, x1141, x1142, x1143, x1144, x1145, x1146, x1147, x1148)) =>
                                          some ((.inr (x1135, x1136, x1137, x1138, x1139, x1140, x1141, x1142, x1143, x1144, x1145, x1146, x1147, x1148)))
                                  else
                                    some ((.inl (x908, x909, x910, x911, x912, x913, x914, x915, x916, x917, x918, x919, x929, x930, x931, x932, x933, x934, x935, x937, x936, x938)))) fun o => match o with
                                  | (.inl (x1149, x1150, x1151, x1152, x1153, x1154, x1155, x1156, x1157, x1158, x1159, x1160, x1161, x1162, x1163, x1164, x1165, x1166, x1167, x1168, x1169, x1170)) =>
                                    Option.bind (α := ((List Bool) × Int × Int × Int × Int × Int × Int × Int × Bool × Int × (List Int) × (List e0) × Int × Int × Int × Int × Int × Bool × Int × (List e0) × (List Int) × (List Int))) (
                                      l_78 (((0 : Int), x1149, x1150, x1151, x1152, x1153, x1154, x1155, x1156, x1157, x1158, x1159, x1160, x1161, x1162, x1163, x1164, x1165, x1166, x1167, x1168, x1169, x1170))) fun (x1244, x1245, x1246, x1247, x1248, x1249, x1250, x1251, x1252, x1253, x1254, x1255, x1256, x1257, x1258, x1259, x1260, x1261, x1262, x1263, x1264, x1265) =>
                                    some ((x1265, (x1256, (x1257, (x1258, ((x1259, (x1260, (x1264, ()))), ((x1261, (x1262, (x1263, ()))), ()))))), (0 : Int), x1244, x1245, x1246))
                                  | (.inr (x1266, x1267, x1268, x1269, x1270, x1271, x1272, x1273, x1274, x1275, x1276, x1277, x1278, x1279)) =>
                                    some ((x1270, (x1271, (x1272, (x1273, ((x1274, (x1275, (x1278, ()))), ((x1276, (x1277, (x1279, ()))), ()))))), x1266, x1267, x1268, x1269))
                              | (.inr (x1280, x1281, x1282, x1283, x1284, x1285, x1286, x1287, x1288, x1289, x1290, x1291, x1292, x1293)) =>
                                some ((x1284, (x1285, (x1286, (x1287, ((x1288, (x1289, (x1292, ()))), ((x1290, (x1291, (x1293, ()))), ()))))), x1280, x1281, x1282, x1283))
                          | (.inr (x490, x491, x492, x493, x494, x495, x496, x497, x498, x499, x500, x501, x502, x503)) =>
                            some ((x494, (x495, (x496, (x497, ((x498, (x499, (x502, ()))), ((x500, (x501, (x503, ()))), ()))))), x490, x491, x492, x493))
                  | (.inr (x328, x329, x330, x331, x332, x333, x334, x335, x336, x337, x338, x339, x340, x341)) =>
                    some ((x332, (x333, (x334, (x335, ((x336, (x337, (x340, ()))), ((x338, (x339, (x341, ()))), ()))))), x328, x329, x330, x331))
              | (.inr (x1294, x1295, x1296, x1297, x1298, x1299, x1300, x1301, x1302, x1303, x1304, x1305, x1306, x1307)) =>
                some ((x1298, (x1299, (x1300, (x1301, ((x1302, (x1303, (x1306, ()))), ((x1304, (x1305, (x1307, ()))), ()))))), x1294, x1295, x1296, x1297))
noncomputable def f_ref16_Take : G_ref16_Take := F_ref16_Take f_ref01_Reader_Take f_ref15_Take F_ref16_Take_23 F_ref16_Take_36 F_ref16_Take_42 F_ref16_Take_53 F_ref16_Take_67 F_ref16_Take_78
def s_ref16_Take : Sig := ⟨[.box [.val (.slice tO), vI, vI], vI, vI], [.slice tO, tI, tI, tI, tI], [⟨.tup [.own tI, .val y9, vI], [.box [.val (.slice tO), vI, vI]], [tL, y9, tI, .slice tO, tI, tI]⟩]⟩
def D_ref16_Take (g_ref01_Reader_Take : G_ref01_Reader_Take) (g_ref06_In : G_ref06_In) (g_ref06_Power : G_ref06_Power) (g_ref07_Told : G_ref07_Told) (g_ref12_Told : G_ref12_Told) (g_ref15_Signed : G_ref15_Signed) (g_ref15_Take : G_ref15_Take) (l_23 : L_ref16_Take_23) (l_36 : L_ref16_Take_36) (l_42 : L_ref16_Take_42) (l_53 : L_ref16_Take_53) (l_67 : L_ref16_Take_67) (l_78 : L_ref16_Take_78) : Desc := ⟨[(31, s_ref01_Reader_Take.sp g_ref01_Reader_Take), (36, s_ref06_In.sp g_ref06_In), (37, s_ref06_Power.sp g_ref06_Power), (34, s_ref07_Told.sp g_ref07_Told), (35, s_ref12_Told.sp g_ref12_Told), (32, s_ref15_Signed.sp g_ref15_Signed), (33, s_ref15_Take.sp g_ref15_Take)], [0, 1, 2, 3, 4, 5, 6, 8, 9, 10, 11, 12, 13, 14, 15, 16, 17, 18, 19, 20, 21, 22, 23, 24, 25, 26, 27, 28, 29, 30, 31], true, [], [(300002, [⟨.normal, [], [(0, .ptr 0 1 0), (1, vI), (2, vI), (7, .ptr 28672 0 0), (9, .ptr 36864 0 0), (46, vO)], [(0, 1, .box [.val (.slice tO), vI, vI]), (28672, 0, .box [vI, vI, vI, vI, vI, .lref 28678 0, vO, vI, .lref 28681 0]), (28678, 0, .own tI), (28681, 0, .own y0), (36864, 0, .box [vI, vI, vI, vI, vI, .lref 36870 0, vO, vI, .lref 36873 0]), (36870, 0, .own tI), (36873, 0, .own y0)], [tI, tI, tO, Ty.slice tO, tI, tI, tI, tI, tI, tI, tI, tO, tI, tL, Ty.slice y0, tI, tI, tI, tI, tI, tO, tI, tL, Ty.slice y0]⟩]), (300014, [⟨.normal, [], [(0, .ptr 0 1 0), (1, vI), (2, vI), (7, .ptr 28672 0 0), (9, .ptr 36864 0 0), (11, vI), (12, .ptr 49152 0 0), (13, vI), (83, vO)], [(0, 1, .box [.val (.slice tO), vI, vI]), (28672, 0, .box [vI, vI, vI, vI, vI, .lref 28678 0, vO, vI, .lref 28681 0]), (28678, 0, .own tI), (28681, 0, .own y0), (36864, 0, .box [vI, vI, vI, vI, vI, .lref 36870 0, vO, vI, .lref 36873 0]), (36870, 0, .own tI), (36873, 0, .own y0), (49152, 0, .box [vI, vI, vI, vI, vI, .lref 49158 0, vO, vI, .lref 49161 0]), (49158, 0, .own tI), (49161, 0, .own y0)], [tI, tI, tI, tI, tO, Ty.slice tO, tI, tI, tI, tI, tI, tI, tI, tO, tI, tL, Ty.slice y0, tI, tI, tI, tI, tI, tO, tI, tL, Ty.slice y0, tI, tI, tI, tI, tI, tO, tI, tL, Ty.slice y0]⟩]), (20018000088, [⟨.normal, [], [(0, .ptr 0 1 0), (1, vI), (2, vI), (7, .ptr 28672 0 0), (9, .ptr 36864 0 0), (12, .ptr 49152 0 0), (13, vI)], [(0, 1, .box [.val (.slice tO), vI, vI]), (28672, 0, .box [vI, vI, vI, vI, vI, .lref 28678 0, vO, vI, .lref 28681 0]), (28678, 0, .own tI), (28681, 0, .own y0), (36864, 0, .box [vI, vI, vI, vI, vI, .lref 36870 0, vO, vI, .lref 36873 0]), (36870, 0, .own tI), (36873, 0, .own y0), (49152, 0, .box [vI, vI, vI, vI, vI, .lref 49158 0, vO, vI, .lref 49161 0]), (49158, 0, .own tI), (49161, 0, .own y0)], [tI, tI, tI, Ty.slice tO, tI, tI, tI, tI, tI, tI, tI, tO, tI, tL, Ty.slice y0, tI, tI, tI, tI, tI, tO, tI, tL, Ty.slice y0, tI, tI, tI, tI, tI, tO, tI, tL, Ty.slice y0]⟩, ⟨.ret, [], [(6, .lref 24576 0), (7, .ptr 28672 0 0), (8, vI)], [(0, 1, .box [.val (.slice tO), vI, vI]), (24576, 0, .own tI), (28672, 0, .box [vI, vI, vI, vI, vI, .lref 28678 0, vO, vI, .lref 28681 0]), (28678, 0, .own tI), (28681, 0, .own y0)], [tI, .slice tO, tI, tI, tL, tI, tI, tI, tI, tI, tO, tI, tL, .slice y0]⟩]), (17015000083, [⟨.normal, [], [(0, .ptr 0 1 0), (1, vI), (2, vI), (7, .ptr 28672 0 0), (9, .ptr 36864 0 0), (12, .ptr 49152 0 0), (13, vI)], [(0, 1, .box [.val (.slice tO), vI, vI]), (28672, 0, .box [vI, vI, vI, vI, vI, .lref 28678 0, vO, vI, .lref 28681 0]), (28678, 0, .own tI), (28681, 0, .own y0), (36864, 0, .box [vI, vI, vI, vI, vI, .lref 36870 0, vO, vI, .lref 36873 0]), (36870, 0, .own tI), (36873, 0, .own y0), (49152, 0, .box [vI, vI, vI, vI, vI, .lref 49158 0, vO, vI, .lref 49161 0]), (49158, 0, .own tI), (49161, 0, .own y0)], [tI, tI, tI, Ty.slice tO, tI, tI, tI, tI, tI, tI, tI, tO, tI, tL, Ty.slice y0, tI, tI, tI, tI, tI, tO, tI, tL, Ty.slice y0, tI, tI, tI, tI, tI, tO, tI, tL, Ty.slice y0]⟩, ⟨.ret, [], [(6, .lref 24576 0), (7, .ptr 28672 0 0), (8, vI)], [(0, 1, .box [.val (.slice tO), vI, vI]), (24576, 0, .own tI), (28672, 0, .box [vI, vI, vI, vI, vI, .lref 28678 0, vO, vI, .lref 28681 0]), (28678, 0, .own tI), (28681, 0, .own y0)], [tI, .slice tO, tI, tI, tL, tI, tI, tI, tI, tI, tO, tI, tL, .slice y0]⟩]), (300023, [⟨.normal, [], [(0, .ptr 0 1 0), (1, vI), (2, vI), (7, .ptr 28672 0 0), (9, .ptr 36864 0 0), (12, .ptr 49152 0 0), (13, vI), (119, vO)], [(0, 1, .box [.val (.slice tO), vI, vI]), (28672, 0, .box [vI, vI, vI, vI, vI, .lref 28678 0, vO, vI, .lref 28681 0]), (28678, 0, .own tI), (28681, 0, .own y0), (36864, 0, .box [vI, vI, vI, vI, vI, .lref 36870 0, vO, vI, .lref 36873 0]), (36870, 0, .own tI), (36873, 0, .own y0), (49152, 0, .box [vI, vI, vI, vI, vI, .lref 49158 0, vO, vI, .lref 49161 0]), (49158, 0, .own tI), (49161, 0, .own y0)], [tI, tI, tI, tO, Ty.slice tO, tI, tI, tI, tI, tI, tI, tI, tO, tI, tL, Ty.slice y0, tI, tI, tI, tI, tI, tO, tI, tL, Ty.slice y0, tI, tI, tI, tI, tI, tO, tI, tL, Ty.slice y0]⟩]), (119, [⟨.normal, [], [(0, .ptr 0 1 0), (1, vI), (2, vI), (7, .ptr 28672 0 0), (9, .ptr 36864 0 0), (12, .ptr 49152 0 0), (13, vI)], [(0, 1, .box [.val (.slice tO), vI, vI]), (28672, 0, .box [vI, vI, vI, vI, vI, .lref 28678 0, vO, vI, .lref 28681 0]), (28678, 0, .own tI), (28681, 0, .own y0), (36864, 0, .box [vI, vI, vI, vI, vI, .lref 36870 0, vO, vI, .lref 36873 0]), (36870, 0, .own tI), (36873, 0, .own y0), (49152, 0, .box [vI, vI, vI, vI, vI, .lref 49158 0, vO, vI, .lref 49161 0]), (49158, 0, .own tI), (49161, 0, .own y0)], [tI, tI, tI, Ty.slice tO, tI, tI, tI, tI, tI, tI, tI, tO, tI, tL, Ty.slice y0, tI, tI, tI, tI, tI, tO, tI, tL, Ty.slice y0, tI, tI, tI, tI, tI, tO, tI, tL, Ty.slice y0]⟩, ⟨.exit 0, [], [(0, .ptr 0 1 0), (1, vI), (2, vI), (7, .ptr 28672 0 0), (9, .ptr 36864 0 0), (12, .ptr 49152 0 0), (13, vI)], [(0, 1, .box [.val (.slice tO), vI, vI]), (28672, 0, .box [vI, vI, vI, vI, vI, .lref 28678 0, vO, vI, .lref 28681 0]), (28678, 0, .own tI), (28681, 0, .own y0), (36864, 0, .box [vI, vI, vI, vI, vI, .lref 36870 0, vO, vI, .lref 36873 0]), (36870, 0, .own tI), (36873, 0, .own y0), (49152, 0, .box [vI, vI, vI, vI, vI, .lref 49158 0, vO, vI, .lref 49161 0]), (49158, 0, .own tI), (49161, 0, .own y0)], [tI, tI, tI, Ty.slice tO, tI, tI, tI, tI, tI, tI, tI, tO, tI, tL, Ty.slice y0, tI, tI, tI, tI, tI, tO, tI, tL, Ty.slice y0, tI, tI, tI, tI, tI, tO, tI, tL, Ty.slice y0]⟩]), (159, [⟨.normal, [], [(0, .ptr 0 1 0), (1, vI), (7, .ptr 28672 0 0), (9, .ptr 36864 0 0), (12, .ptr 49152 0 0), (13, vI), (15, vI), (16, vI), (17, .lref 69632 0), (18, vI)], [(0, 1, .box [.val (.slice tO), vI, vI]), (28672, 0, .box [vI, vI, vI, vI, vI, .lref 28678 0, vO, vI, .lref 28681 0]), (28678, 0, .own tI), (28681, 0, .own y0), (36864, 0, .box [vI, vI, vI, vI, vI, .lref 36870 0, vO, vI, .lref 36873 0]), (36870, 0, .own tI), (36873, 0, .own y0), (49152, 0, .box [vI, vI, vI, vI, vI, .lref 49158 0, vO, vI, .lref 49161 0]), (49158, 0, .own tI), (49161, 0, .own y0), (69632, 0, .own tI)], [tI, tI, tI, tI, tI, Ty.slice tO, tI, tI, tI, tI, tI, tI, tI, tO, tI, tL, Ty.slice y0, tI, tI, tI, tI, tI, tO, tI, tL, Ty.slice y0, tI, tI, tI, tI, tI, tO, tI, tL, Ty.slice y0, tL]⟩, ⟨.exit 2, [], [(0, .ptr 0 1 0), (1, vI), (7, .ptr 28672 0 0), (9, .ptr 36864 0 0), (12, .ptr 49152 0 0), (13, vI), (15, vI), (17, .lref 69632 0)], [(0, 1, .box [.val (.slice tO), vI, vI]), (28672, 0, .box [vI, vI, vI, vI, vI, .lref 28678 0, vO, vI, .lref 28681 0]), (28678, 0, .own tI), (28681, 0, .own y0), (36864, 0, .box [vI, vI, vI, vI, vI, .lref 36870 0, vO, vI, .lref 36873 0]), (36870, 0, .own tI), (36873, 0, .own y0), (49152, 0, .box [vI, vI, vI, vI, vI, .lref 49158 0, vO, vI, .lref 49161 0]), (49158, 0, .own tI), (49161, 0, .own y0), (69632, 0, .own tI)], [tI, tI, tI, Ty.slice tO, tI, tI, tI, tI, tI, tI, tI, tO, tI, tL, Ty.slice y0, tI, tI, tI, tI, tI, tO, tI, tL, Ty.slice y0, tI, tI, tI, tI, tI, tO, tI, tL, Ty.slice y0, tL]⟩]), (300042, [⟨.normal, [], [(0, .ptr 0 1 0), (1, vI), (7, .ptr 28672 0 0), (9, .ptr 36864 0 0), (12, .ptr 49152 0 0), (13, vI), (15, vI), (17, .lref 69632 0), (189, vO)], [(0, 1, .box [.val (.slice tO), vI, vI]), (28672, 0, .box [vI, vI, vI, vI, vI, .lref 28678 0, vO, vI, .lref 28681 0]), (28678, 0, .own tI), (28681, 0, .own y0), (36864, 0, .box [vI, vI, vI, vI, vI, .lref 36870 0, vO, vI, .lref 36873 0]), (36870, 0, .own tI), (36873, 0, .own y0), (49152, 0, .box [vI, vI, vI, vI, vI, .lref 49158 0, vO, vI, .lref 49161 0]), (49158, 0, .own tI), (49161, 0, .own y0), (69632, 0, .own tI)], [tI, tI, tI, tO, Ty.slice tO, tI, tI, tI, tI, tI, tI, tI, tO, tI, tL, Ty.slice y0, tI, tI, tI, tI, tI, tO, tI, tL, Ty.slice y0, tI, tI, tI, tI, tI, tO, tI, tL, Ty.slice y0, tL]⟩]), (189, [⟨.normal, [], [(0, .ptr 0 1 0), (1, vI), (7, .ptr 28672 0 0), (9, .ptr 36864 0 0), (12, .ptr 49152 0 0), (13, vI), (15, vI), (17, .lref 69632 0)], [(0, 1, .box [.val (.slice tO), vI, vI]), (28672, 0, .box [vI, vI, vI, vI, vI, .lref 28678 0, vO, vI, .lref 28681 0]), (28678, 0, .own tI), (28681, 0, .own y0), (36864, 0, .box [vI, vI, vI, vI, vI, .lref 36870 0, vO, vI, .lref 36873 0]), (36870, 0, .own tI), (36873, 0, .own y0), (49152, 0, .box [vI, vI, vI, vI, vI, .lref 49158 0, vO, vI, .lref 49161 0]), (49158, 0, .own tI), (49161, 0, .own y0), (69632, 0, .own tI)], [tI, tI, tI, Ty.slice tO, tI, tI, tI, tI, tI, tI, tI, tO, tI, tL, Ty.slice y0, tI, tI, tI, tI, tI, tO, tI, tL, Ty.slice y0, tI, tI, tI, tI, tI, tO, tI, tL, Ty.slice y0, tL]⟩, ⟨.exit 4, [], [(0, .ptr 0 1 0), (1, vI), (7, .ptr 28672 0 0), (9, .ptr 36864 0 0), (12, .ptr 49152 0 0), (13, vI), (15, vI), (17, .lref 69632 0)], [(0, 1, .box [.val (.slice tO), vI, vI]), (28672, 0, .box [vI, vI, vI, vI, vI, .lref 28678 0, vO, vI, .lref 28681 0]), (28678, 0, .own tI), (28681, 0, .own y0), (36864, 0, .box [vI, vI, vI, vI, vI, .lref 36870 0, vO, vI, .lref 36873 0]), (36870, 0, .own tI), (36873, 0, .own y0), (49152, 0, .box [vI, vI, vI, vI, vI, .lref 49158 0, vO, vI, .lref 49161 0]), (49158, 0, .own tI), (49161, 0, .own y0), (69632, 0, .own tI)], [tI, tI, tI, Ty.slice tO, tI, tI, tI, tI, tI, tI, tI, tO, tI, tL, Ty.slice y0, tI, tI, tI, tI, tI, tO, tI, tL, Ty.slice y0, tI, tI, tI, tI, tI, tO, tI, tL, Ty.slice y0, tL]⟩]), (300046, [⟨.normal, [], [(0, .ptr 0 1 0), (1, vI), (7, .ptr 28672 0 0), (9, .ptr 36864 0 0), (12, .ptr 49152 0 0), (13, vI), (15, vI), (17, .lref 69632 0), (20, vI), (210, vO)], [(0, 1, .box [.val (.slice tO), vI, vI]), (28672, 0, .box [vI, vI, vI, vI, vI, .lref 28678 0, vO, vI, .lref 28681 0]), (28678, 0, .own tI), (28681, 0, .own y0), (36864, 0, .box [vI, vI, vI, vI, vI, .lref 36870 0, vO, vI, .lref 36873 0]), (36870, 0, .own tI), (36873, 0, .own y0), (49152, 0, .box [vI, vI, vI, vI, vI, .lref 49158 0, vO, vI, .lref 49161 0]), (49158, 0, .own tI), (49161, 0, .own y0), (69632, 0, .own tI)], [tI, tI, tI, tI, tO, Ty.slice tO, tI, tI, tI, tI, tI, tI, tI, tO, tI, tL, Ty.slice y0, tI, tI, tI, tI, tI, tO, tI, tL, Ty.slice y0, tI, tI, tI, tI, tI, tO, tI, tL, Ty.slice y0, tL]⟩]), (300049, [⟨.normal, [], [(0, .ptr 0 1 0), (1, vI), (7, .ptr 28672 0 0), (9, .ptr 36864 0 0), (12, .ptr 49152 0 0), (13, vI), (15, vI), (17, .lref 69632 0), (20, vI), (21, vI), (223, vO)], [(0, 1, .box [.val (.slice tO), vI, vI]), (28672, 0, .box [vI, vI, vI, vI, vI, .lref 28678 0, vO, vI, .lref 28681 0]), (28678, 0, .own tI), (28681, 0, .own y0), (36864, 0, .box [vI, vI, vI, vI, vI, .lref 36870 0, vO, vI, .lref 36873 0]), (36870, 0, .own tI), (36873, 0, .own y0), (49152, 0, .box [vI, vI, vI, vI, vI, .lref 49158 0, vO, vI, .lref 49161 0]), (49158, 0, .own tI), (49161, 0, .own y0), (69632, 0, .own tI)], [tI, tI, tI, tI, tI, tO, Ty.slice tO, tI, tI, tI, tI, tI, tI, tI, tO, tI, tL, Ty.slice y0, tI, tI, tI, tI, tI, tO, tI, tL, Ty.slice y0, tI, tI, tI, tI, tI, tO, tI, tL, Ty.slice y0, tL]⟩]), (232, [⟨.normal, [], [(0, .ptr 0 1 0), (1, vI), (7, .ptr 28672 0 0), (9, .ptr 36864 0 0), (12, .ptr 49152 0 0), (13, vI), (15, vI), (17, .lref 69632 0), (20, vI), (22, vI)], [(0, 1, .box [.val (.slice tO), vI, vI]), (28672, 0, .box [vI, vI, vI, vI, vI, .lref 28678 0, vO, vI, .lref 28681 0]), (28678, 0, .own tI), (28681, 0, .own y0), (36864, 0, .box [vI, vI, vI, vI, vI, .lref 36870 0, vO, vI, .lref 36873 0]), (36870, 0, .own tI), (36873, 0, .own y0), (49152, 0, .box [vI, vI, vI, vI, vI, .lref 49158 0, vO, vI, .lref 49161 0]), (49158, 0, .own tI), (49161, 0, .own y0), (69632, 0, .own tI)], [tI, tI, tI, tI, tI, Ty.slice tO, tI, tI, tI, tI, tI, tI, tI, tO, tI, tL, Ty.slice y0, tI, tI, tI, tI, tI, tO, tI, tL, Ty.slice y0, tI, tI, tI, tI, tI, tO, tI, tL, Ty.slice y0, tL]⟩, ⟨.exit 6, [], [(0, .ptr 0 1 0), (1, vI), (7, .ptr 28672 0 0), (9, .ptr 36864 0 0), (12, .ptr 49152 0 0), (13, vI), (15, vI), (17, .lref 69632 0)], [(0, 1, .box [.val (.slice tO), vI, vI]), (28672, 0, .box [vI, vI, vI, vI, vI, .lref 28678 0, vO, vI, .lref 28681 0]), (28678, 0, .own tI), (28681, 0, .own y0), (36864, 0, .box [vI, vI, vI, vI, vI, .lref 36870 0, vO, vI, .lref 36873 0]), (36870, 0, .own tI), (36873, 0, .own y0), (49152, 0, .box [vI, vI, vI, vI, vI, .lref 49158 0, vO, vI, .lref 49161 0]), (49158, 0, .own tI), (49161, 0, .own y0), (69632, 0, .own tI)], [tI, tI, tI, Ty.slice tO, tI, tI, tI, tI, tI, tI, tI, tO, tI, tL, Ty.slice y0, tI, tI, tI, tI, tI, tO, tI, tL, Ty.slice y0, tI, tI, tI, tI, tI, tO, tI, tL, Ty.slice y0, tL]⟩]), (45000198, [⟨.normal, [], [(0, .ptr 0 1 0), (1, vI), (7, .ptr 28672 0 0), (9, .ptr 36864 0 0), (12, .ptr 49152 0 0), (13, vI), (15, vI), (17, .lref 69632 0)], [(0, 1, .box [.val (.slice tO), vI, vI]), (28672, 0, .box [vI, vI, vI, vI, vI, .lref 28678 0, vO, vI, .lref 28681 0]), (28678, 0, .own tI), (28681, 0, .own y0), (36864, 0, .box [vI, vI, vI, vI, vI, .lref 36870 0, vO, vI, .lref 36873 0]), (36870, 0, .own tI), (36873, 0, .own y0), (49152, 0, .box [vI, vI, vI, vI, vI, .lref 49158 0, vO, vI, .lref 49161 0]), (49158, 0, .own tI), (49161, 0, .own y0), (69632, 0, .own tI)], [tI, tI, tI, Ty.slice tO, tI, tI, tI, tI, tI, tI, tI, tO, tI, tL, Ty.slice y0, tI, tI, tI, tI, tI, tO, tI, tL, Ty.slice y0, tI, tI, tI, tI, tI, tO, tI, tL, Ty.slice y0, tL]⟩, ⟨.ret, [], [(6, .lref 24576 0), (7, .ptr 28672 0 0), (8, vI)], [(0, 1, .box [.val (.slice tO), vI, vI]), (24576, 0, .own tI), (28672, 0, .box [vI, vI, vI, vI, vI, .lref 28678 0, vO, vI, .lref 28681 0]), (28678, 0, .own tI), (28681, 0, .own y0)], [tI, .slice tO, tI, tI, tL, tI, tI, tI, tI, tI, tO, tI, tL, .slice y0]⟩]), (65000279, [⟨.normal, [], [(7, .ptr 28672 0 0), (9, .ptr 36864 0 0), (12, .ptr 49152 0 0), (13, vI), (15, vI), (17, .lref 69632 0), (24, .lref 98304 0)], [(0, 1, .box [.val (.slice tO), vI, vI]), (28672, 0, .box [vI, vI, vI, vI, vI, .lref 28678 0, vO, vI, .lref 28681 0]), (28678, 0, .own tI), (28681, 0, .own y0), (36864, 0, .box [vI, vI, vI, vI, vI, .lref 36870 0, vO, vI, .lref 36873 0]), (36870, 0, .own tI), (36873, 0, .own y0), (49152, 0, .box [vI, vI, vI, vI, vI, .lref 49158 0, vO, vI, .val (.slice y0)]), (49158, 0, .own tI), (69632, 0, .own tI), (98304, 0, .own tI)], [tI, tI, Ty.slice tO, tI, tI, tI, tI, tI, tI, tI, tO, tI, tL, Ty.slice y0, tI, tI, tI, tI, tI, tO, tI, tL, Ty.slice y0, tI, tI, tI, tI, tI, tO, tI, Ty.slice y0, tL, tL, tL]⟩]), (285, [⟨.normal, [], [(7, .ptr 28672 0 0), (9, .ptr 36864 0 0), (12, .ptr 49152 0 0), (13, vI), (15, vI), (17, .lref 69632 0), (24, .lref 98304 0), (27, vI)], [(0, 1, .box [.val (.slice tO), vI, vI]), (28672, 0, .box [vI, vI, vI, vI, vI, .lref 28678 0, vO, vI, .lref 28681 0]), (28678, 0, .own tI), (28681, 0, .own y0), (36864, 0, .box [vI, vI, vI, vI, vI, .lref 36870 0, vO, vI, .lref 36873 0]), (36870, 0, .own tI), (36873, 0, .own y0), (49152, 0, .box [vI, vI, vI, vI, vI, .lref 49158 0, vO, vI, .val (.slice y0)]), (49158, 0, vL), (69632, 0, .own tI), (98304, 0, .own tI)], [tI, tI, tI, Ty.slice tO, tI, tI, tI, tI, tI, tI, tI, tO, tI, tL, Ty.slice y0, tI, tI, tI, tI, tI, tO, tI, tL, Ty.slice y0, tI, tI, tI, tI, tI, tO, tI, Ty.slice y0, tL, tL, tL]⟩, ⟨.exit 8, [], [(7, .ptr 28672 0 0), (12, .ptr 49152 0 0), (17, .lref 69632 0)], [(0, 1, .box [.val (.slice tO), vI, vI]), (28672, 0, .box [vI, vI, vI, vI, vI, .lref 28678 0, vO, vI, .lref 28681 0]), (28678, 0, .own tI), (28681, 0, .own y0), (49152, 0, .box [vI, vI, vI, vI, vI, .lref 49158 0, vO, vI, .val (.slice y0)]), (49158, 0, vL), (69632, 0, .own tI)], [Ty.slice tO, tI, tI, tI, tI, tI, tI, tI, tO, tI, tL, Ty.slice y0, tI, tI, tI, tI, tI, tO, tI, Ty.slice y0, tL, tL]⟩]), (71000295, [⟨.normal, [], [(7, .ptr 28672 0 0), (9, .ptr 36864 0 0), (12, .ptr 49152 0 0), (13, vI), (15, vI), (17, .lref 69632 0), (24, .lref 98304 0), (27, vI), (28, vI)], [(0, 1, .box [.val (.slice tO), vI, vI]), (28672, 0, .box [vI, vI, vI, vI, vI, .lref 28678 0, vO, vI, .lref 28681 0]), (28678, 0, .own tI), (28681, 0, .own y0), (36864, 0, .box [vI, vI, vI, vI, vI, .lref 36870 0, vO, vI, .lref 36873 0]), (36870, 0, .own tI), (36873, 0, .own y0), (49152, 0, .box [vI, vI, vI, vI, vI, .lref 49158 0, vO, vI, .val (.slice y0)]), (49158, 0, vL), (69632, 0, .own tI), (98304, 0, .own tI)], [tI, tI, tI, tI, Ty.slice tO, tI, tI, tI, tI, tI, tI, tI, tO, tI, tL, Ty.slice y0, tI, tI, tI, tI, tI, tO, tI, tL, Ty.slice y0, tI, tI, tI, tI, tI, tO, tI, Ty.slice y0, tL, tL, tL]⟩]), (60000262, [⟨.normal, [(49152, 8)], [(7, .ptr 28672 0 0), (12, .ptr 49152 0 0), (17, .lref 69632 0)], [(0, 1, .box [.val (.slice tO), vI, vI]), (28672, 0, .box [vI, vI, vI, vI, vI, .lref 28678 0, vO, vI, .lref 28681 0]), (28678, 0, .own tI), (28681, 0, .own y0), (49152, 0, .box [vI, vI, vI, vI, vI, .lref 49158 0, vO, vI, .val (.slice y0)]), (49158, 0, vL), (69632, 0, .own tI)], [Ty.slice tO, tI, tI, tI, tI, tI, tI, tI, tO, tI, tL, Ty.slice y0, tI, tI, tI, tI, tI, tO, tI, Ty.slice y0, tL, tL]⟩, ⟨.ret, [(49152, 8)], [(6, .lref 24576 0), (7, .ptr 28672 0 0), (8, vI)], [(0, 1, .box [.val (.slice tO), vI, vI]), (24576, 0, .own tI), (28672, 0, .box [vI, vI, vI, vI, vI, .lref 28678 0, vO, vI, .lref 28681 0]), (28678, 0, .own tI), (28681, 0, .own y0)], [tI, .slice tO, tI, tI, tL, tI, tI, tI, tI, tI, tO, tI, tL, .slice y0]⟩]), (321, [⟨.normal, [], [(7, .ptr 28672 0 0), (12, .ptr 49152 0 0), (17, .lref 69632 0), (31, vI)], [(0, 1, .box [.val (.slice tO), vI, vI]), (28672, 0, .box [vI, vI, vI, vI, vI, .lref 28678 0, vO, vI, .lref 28681 0]), (28678, 0, .own tI), (28681, 0, .own y0), (49152, 0, .box [vI, vI, vI, vI, vI, .lref 49158 0, vO, vI, .val (.slice y0)]), (49158, 0, vL), (69632, 0, .own tI)], [tI, Ty.slice tO, tI, tI, tI, tI, tI, tI, tI, tO, tI, tL, Ty.slice y0, tI, tI, tI, tI, tI, tO, tI, Ty.slice y0, tL, tL]⟩, ⟨.exit 10, [], [(7, .ptr 28672 0 0), (12, .ptr 49152 0 0), (17, .lref 69632 0)], [(0, 1, .box [.val (.slice tO), vI, vI]), (28672, 0, .box [vI, vI, vI, vI, vI, .lref 28678 0, vO, vI, .lref 28681 0]), (28678, 0, .own tI), (28681, 0, .own y0), (49152, 0, .box [vI, vI, vI, vI, vI, .lref 49158 0, vO, vI, .val (.slice y0)]), (49158, 0, vL), (69632, 0, .own tI)], [Ty.slice tO, tI, tI, tI, tI, tI, tI, tI, tO, tI, tL, Ty.slice y0, tI, tI, tI, tI, tI, tO, tI, Ty.slice y0, tL, tL]⟩])], [(23, S_ref16_Take_23 l_23), (36, S_ref16_Take_36 l_36), (42, S_ref16_Take_42 l_42), (53, S_ref16_Take_53 l_53), (67, S_ref16_Take_67 l_67), (78, S_ref16_Take_78 l_78)], [false, false, false]⟩
theorem q_ref16_Take (g_ref01_Reader_Take : G_ref01_Reader_Take) (g_ref06_In : G_ref06_In) (g_ref06_Power : G_ref06_Power) (g_ref07_Told : G_ref07_Told) (g_ref12_Told : G_ref12_Told) (g_ref15_Signed : G_ref15_Signed) (g_ref15_Take : G_ref15_Take) (l_23 : L_ref16_Take_23) (l_36 : L_ref16_Take_36) (l_42 : L_ref16_Take_42) (l_53 : L_ref16_Take_53) (l_67 : L_ref16_Take_67) (l_78 : L_ref16_Take_78) : (∀ (k : L_ref16_Take_23) (a157 : Int) (a158 : Int) (a159 : Int) (a160 : Int) (a161 : List Bool) (a162 : Int) (a163 : Int) (a164 : Int) (a165 : Int) (a166 : Int) (a167 : Int) (a168 : Int) (a169 : Bool) (a170 : Int) (a171 : List Int) (a172 : List e0) (a173 : Int) (a174 : Int) (a175 : Int) (a176 : Int) (a177 : Int) (a178 : Bool) (a179 : Int) (a180 : List Int) (a181 : List e0) (a182 : Int) (a183 : Int) (a184 : Int) (a185 : Int) (a186 : Int) (a187 : Bool) (a188 : Int) (a189 : List Int) (a190 : List e0), (D_ref16_Take g_ref01_Reader_Take g_ref06_In g_ref06_Power g_ref07_Told g_ref12_Told g_ref15_Signed g_ref15_Take l_23 l_36 l_42 l_53 l_67 l_78).step Proofs.Try.prog Proofs.Try.f10 23 (S_ref16_Take_23 l_23) k (a157, a158, a159, a160, a161, a162, a163, a164, a165, a166, a167, a168, a169, a170, a171, a172, a173, a174, a175, a176, a177, a178, a179, a180, a181, a182, a183, a184, a185, a186, a187, a188, a189, a190) = B_ref16_Take_23 g_ref01_Reader_Take k (a157, a158, a159, a160, a161, a162, a163, a164, a165, a166, a167, a168, a169, a170, a171, a172, a173, a174, a175, a176, a177, a178, a179, a180, a181, a182, a183, a184, a185, a186, a187, a188, a189, a190)) ∧ (∀ (k : L_ref16_Take_36) (a344 : Int) (a345 : Int) (a346 : Int) (a347 : Int) (a348 : Int) (a349 : List Bool) (a350 : Int) (a351 : Int) (a352 : Int) (a353 : Int) (a354 : Int) (a355 : Int) (a356 : Int) (a357 : Bool) (a358 : Int) (a359 : List Int) (a360 : List e0) (a361 : Int) (a362 : Int) (a363 : Int) (a364 : Int) (a365 : Int) (a366 : Bool) (a367 : Int) (a368 : List Int) (a369 : List e0) (a370 : Int) (a371 : Int) (a372 : Int) (a373 : Int) (a374 : Int) (a375 : Bool) (a376 : Int) (a377 : List Int) (a378 : List e0) (a379 : List Int), (D_ref16_Take g_ref01_Reader_Take g_ref06_In g_ref06_Power g_ref07_Told g_ref12_Told g_ref15_Signed g_ref15_Take l_23 l_36 l_42 l_53 l_67 l_78).step Proofs.Try.prog Proofs.Try.f10 36 (S_ref16_Take_36 l_36) k (a344, a345, a346, a347, a348, a349, a350, a351, a352, a353, a354, a355, a356, a357, a358, a359, a360, a361, a362, a363, a364, a365, a366, a367, a368, a369, a370, a371, a372, a373, a374, a375, a376, a377, a378, a379) = B_ref16_Take_36 g_ref01_Reader_Take g_ref15_Signed k (a344, a345, a346, a347, a348, a349, a350, a351, a352, a353, a354, a355, a356, a357, a358, a359, a360, a361, a362, a363, a364, a365, a366, a367, a368, a369, a370, a371, a372, a373, a374, a375, a376, a377, a378, a379)) ∧ (∀ (k : L_ref16_Take_42) (a504 : Int) (a505 : Int) (a506 : Int) (a507 : List Bool) (a508 : Int) (a509 : Int) (a510 : Int) (a511 : Int) (a512 : Int) (a513 : Int) (a514 : Int) (a515 : Bool) (a516 : Int) (a517 : List Int) (a518 : List e0) (a519 : Int) (a520 : Int) (a521 : Int) (a522 : Int) (a523 : Int) (a524 : Bool) (a525 : Int) (a526 : List Int) (a527 : List e0) (a528 : Int) (a529 : Int) (a530 : Int) (a531 : Int) (a532 : Int) (a533 : Bool) (a534 : Int) (a535 : List Int) (a536 : List e0) (a537 : List Int), (D_ref16_Take g_ref01_Reader_Take g_ref06_In g_ref06_Power g_ref07_Told g_ref12_Told g_ref15_Signed g_ref15_Take l_23 l_36 l_42 l_53 l_67 l_78).step Proofs.Try.prog Proofs.Try.f10 42 (S_ref16_Take_42 l_42) k (a504, a505, a506, a507, a508, a509, a510, a511, a512, a513, a514, a515, a516, a517, a518, a519, a520, a521, a522, a523, a524, a525, a526, a527, a528, a529, a530, a531, a532, a533, a534, a535, a536, a537) = B_ref16_Take_42 k (a504, a505, a506, a507, a508, a509, a510, a511, a512, a513, a514, a515, a516, a517, a518, a519, a520, a521, a522, a523, a524, a525, a526, a527, a528, a529, a530, a531, a532, a533, a534, a535, a536, a537)) ∧ (∀ (k : L_ref16_Take_53) (a759 : Int) (a760 : Int) (a761 : Int) (a762 : Int) (a763 : Int) (a764 : List Bool) (a765 : Int) (a766 : Int) (a767 : Int) (a768 : Int) (a769 : Int) (a770 : Int) (a771 : Int) (a772 : Bool) (a773 : Int) (a774 : List Int) (a775 : List e0) (a776 : Int) (a777 : Int) (a778 : Int) (a779 : Int) (a780 : Int) (a781 : Bool) (a782 : Int) (a783 : List Int) (a784 : List e0) (a785 : Int) (a786 : Int) (a787 : Int) (a788 : Int) (a789 : Int) (a790 : Bool) (a791 : Int) (a792 : List Int) (a793 : List e0) (a794 : List Int), (D_ref16_Take g_ref01_Reader_Take g_ref06_In g_ref06_Power g_ref07_Told g_ref12_Told g_ref15_Signed g_ref15_Take l_23 l_36 l_42 l_53 l_67 l_78).step Proofs.Try.prog Proofs.Try.f10 53 (S_ref16_Take_53 l_53) k (a759, a760, a761, a762, a763, a764, a765, a766, a767, a768, a769, a770, a771, a772, a773, a774, a775, a776, a777, a778, a779, a780, a781, a782, a783, a784, a785, a786, a787, a788, a789, a790, a791, a792, a793, a794) = B_ref16_Take_53 g_ref01_Reader_Take g_ref15_Signed k (a759, a760, a761, a762, a763, a764, a765, a766, a767, a768, a769, a770, a771, a772, a773, a774, a775, a776, a777, a778, a779, a780, a781, a782, a783, a784, a785, a786, a787, a788, a789, a790, a791, a792, a793, a794)) ∧ (∀ (k : L_ref16_Take_67) (a979 : Int) (a980 : Int) (a981 : Int) (a982 : List Bool) (a983 : Int) (a984 : Int) (a985 : Int) (a986 : Int) (a987 : Int) (a988 : Int) (a989 : Int) (a990 : Bool) (a991 : Int) (a992 : List Int) (a993 : List e0) (a994 : Int) (a995 : Int) (a996 : Int) (a997 : Int) (a998 : Int) (a999 : Bool) (a1000 : Int) (a1001 : List Int) (a1002 : List e0) (a1003 : Int) (a1004 : Int) (a1005 : Int) (a1006 : Int) (a1007 : Int) (a1008 : Bool) (a1009 : Int) (a1010 : List e0) (a1011 : List Int) (a1012 : List Int) (a1013 : List Int), (D_ref16_Take g_ref01_Reader_Take g_ref06_In g_ref06_Power g_ref07_Told g_ref12_Told g_ref15_Signed g_ref15_Take l_23 l_36 l_42 l_53 l_67 l_78).step Proofs.Try.prog Proofs.Try.f10 67 (S_ref16_Take_67 l_67) k (a979, a980, a981, a982, a983, a984, a985, a986, a987, a988, a989, a990, a991, a992, a993, a994, a995, a996, a997, a998, a999, a1000, a1001, a1002, a1003, a1004, a1005, a1006, a1007, a1008, a1009, a1010, a1011, a1012, a1013) = B_ref16_Take_67 g_ref06_In g_ref07_Told g_ref12_Told k (a979, a980, a981, a982, a983, a984, a985, a986, a987, a988, a989, a990, a991, a992, a993, a994, a995, a996, a997, a998, a999, a1000, a1001, a1002, a1003, a1004, a1005, a1006, a1007, a1008, a1009, a1010, a1011, a1012, a1013)) ∧ (∀ (k : L_ref16_Take_78) (a1171 : Int) (a1172 : List Bool) (a1173 : Int) (a1174 : Int) (a1175 : Int) (a1176 : Int) (a1177 : Int) (a1178 : Int) (a1179 : Int) (a1180 : Bool) (a1181 : Int) (a1182 : List Int) (a1183 : List e0) (a1184 : Int) (a1185 : Int) (a1186 : Int) (a1187 : Int) (a1188 : Int) (a1189 : Bool) (a1190 : Int) (a1191 : List e0) (a1192 : List Int) (a1193 : List Int), (D_ref16_Take g_ref01_Reader_Take g_ref06_In g_ref06_Power g_ref07_Told g_ref12_Told g_ref15_Signed g_ref15_Take l_23 l_36 l_42 l_53 l_67 l_78).step Proofs.Try.prog Proofs.Try.f10 78 (S_ref16_Take_78 l_78) k (a1171, a1172, a1173, a1174, a1175, a1176, a1177, a1178, a1179, a1180, a1181, a1182, a1183, a1184, a1185, a1186, a1187, a1188, a1189, a1190, a1191, a1192, a1193) = B_ref16_Take_78 g_ref06_Power k (a1171, a1172, a1173, a1174, a1175, a1176, a1177, a1178, a1179, a1180, a1181, a1182, a1183, a1184, a1185, a1186, a1187, a1188, a1189, a1190, a1191, a1192, a1193)) ∧ (∀ (p1 : List Bool) (p2 : Int) (p3 : Int) (p4 : Int) (p5 : Int), (D_ref16_Take g_ref01_Reader_Take g_ref06_In g_ref06_Power g_ref07_Told g_ref12_Told g_ref15_Signed g_ref15_Take l_23 l_36 l_42 l_53 l_67 l_78).body Proofs.Try.prog Proofs.Try.f10 s_ref16_Take (p1, p2, p3, p4, p5) = F_ref16_Take g_ref01_Reader_Take g_ref15_Take l_23 l_36 l_42 l_53 l_67 l_78 (p1, p2, p3, p4, p5)) := ⟨fun k a157 a158 a159 a160 a161 a162 a163 a164 a165 a166 a167 a168 a169 a170 a171 a172 a173 a174 a175 a176 a177 a178 a179 a180 a181 a182 a183 a184 a185 a186 a187 a188 a189 a190 => by kernel_rfl, fun k a344 a345 a346 a347 a348 a349 a350 a351 a352 a353 a354 a355 a356 a357 a358 a359 a360 a361 a362 a363 a364 a365 a366 a367 a368 a369 a370 a371 a372 a373 a374 a375 a376 a377 a378 a379 => by kernel_rfl, fun k a504 a505 a506 a507 a508 a509 a510 a511 a512 a513 a514 a515 a516 a517 a518 a519 a520 a521 a522 a523 a524 a525 a526 a527 a528 a529 a530 a531 a532 a533 a534 a535 a536 a537 => by kernel_rfl, fun k a759 a760 a761 a762 a763 a764 a765 a766 a767 a768 a769 a770 a771 a772 a773 a774 a775 a776 a777 a778 a779 a780 a781 a782 a783 a784 a785 a786 a787 a788 a789 a790 a791 a792 a793 a794 => by kernel_rfl, fun k a979 a980 a981 a982 a983 a984 a985 a986 a987 a988 a989 a990 a991 a992 a993 a994 a995 a996 a997 a998 a999 a1000 a1001 a1002 a1003 a1004 a1005 a1006 a1007 a1008 a1009 a1010 a1011 a1012 a1013 => by kernel_rfl, fun k a1171 a1172 a1173 a1174 a1175 a1176 a1177 a1178 a1179 a1180 a1181 a1182 a1183 a1184 a1185 a1186 a1187 a1188 a1189 a1190 a1191 a1192 a1193 => by kernel_rfl, fun p1 p2 p3 p4 p5 => by kernel_rfl⟩
theorem k_ref16_Take : Known Proofs.Try.prog 10 (s_ref16_Take.sp f_ref16_Take) :=
  known_of (D := D_ref16_Take f_ref01_Reader_Take f_ref06_In f_ref06_Power f_ref07_Told f_ref12_Told f_ref15_Signed f_ref15_Take F_ref16_Take_23 F_ref16_Take_36 F_ref16_Take_42 F_ref16_Take_53 F_ref16_Take_67 F_ref16_Take_78) mixed Proofs.Try.func10 (by kernel_rfl) (by kernel_rfl) ⟨k_ref01_Reader_Take, k_ref06_In, k_ref06_Power, k_ref07_Told, k_ref12_Told, k_ref15_Signed, k_ref15_Take, trivial⟩ ⟨fact_of fun k x => (q_ref16_Take f_ref01_Reader_Take f_ref06_In f_ref06_Power f_ref07_Told f_ref12_Told f_ref15_Signed f_ref15_Take F_ref16_Take_23 F_ref16_Take_36 F_ref16_Take_42 F_ref16_Take_53 F_ref16_Take_67 F_ref16_Take_78).1 k x.1 x.2.1 x.2.2.1 x.2.2.2.1 x.2.2.2.2.1 x.2.2.2.2.2.1 x.2.2.2.2.2.2.1 x.2.2.2.2.2.2.2.1 x.2.2.2.2.2.2.2.2.1 x.2.2.2.2.2.2.2.2.2.1 x.2.2.2.2.2.2.2.2.2.2.1 x.2.2.2.2.2.2.2.2.2.2.2.1 x.2.2.2.2.2.2.2.2.2.2.2.2.1 x.2.2.2.2.2.2.2.2.2.2.2.2.2.1 x.2.2.2.2.2.2.2.2.2.2.2.2.2.2.1 x.2.2.2.2.2.2.2.2.2.2.2.2.2.2.2.1 x.2.2.2.2.2.2.2.2.2.2.2.2.2.2.2.2.1 x.2.2.2.2.2.2.2.2.2.2.2.2.2.2.2.2.2.1 x.2.2.2.2.2.2.2.2.2.2.2.2.2.2.2.2.2.2.1 x.2.2.2.2.2.2.2.2.2.2.2.2.2.2.2.2.2.2.2.1 x.2.2.2.2.2.2.2.2.2.2.2.2.2.2.2.2.2.2.2.2.1 x.2.2.2.2.2.2.2.2.2.2.2.2.2.2.2.2.2.2.2.2.2.1 x.2.2.2.2.2.2.2.2.2.2.2.2.2.2.2.2.2.2.2.2.2.2.1 x.2.2.2.2.2.2.2.2.2.2.2.2.2.2.2.2.2.2.2.2.2.2.2.1 x.2.2.2.2.2.2.2.2.2.2.2.2.2.2.2.2.2.2.2.2.2.2.2.2.1 x.2.2.2.2.2.2.2.2.2.2.2.2.2.2.2.2.2.2.2.2.2.2.2.2.2.1 x.2.2.2.2.2.2.2.2.2.2.2.2.2.2.2.2.2.2.2.2.2.2.2.2.2.2.1 x.2.2.2.2.2.2.2.2.2.2.2.2.2.2.2.2.2.2.2.2.2.2.2.2.2.2.2.1 x.2.2.2.2.2.2.2.2.2.2.2.2.2.2.2.2.2.2.2.2.2.2.2.2.2.2.2.2.1 x.2.2.2.2.2.2.2.2.2.2.2.2.2.2.2.2.2.2.2.2.2.2.2.2.2.2.2.2.2.1 x.2.2.2.2.2.2.2.2.2.2.2.2.2.2.2.2.2.2.2.2.2.2.2.2.2.2.2.2.2.2.1 x.2.2.2.2.2.2.2.2.2.2.2.2.2.2.2.2.2.2.2.2.2.2.2.2.2.2.2.2.2.2.2.1 x.2.2.2.2.2.2.2.2.2.2.2.2.2.2.2.2.2.2.2.2.2.2.2.2.2.2.2.2.2.2.2.2.1 x.2.2.2.2.2.2.2.2.2.2.2.2.2.2.2.2.2.2.2.2.2.2.2.2.2.2.2.2.2.2.2.2.2, fact_of fun k x => (q_ref16_Take f_ref01_Reader_Take f_ref06_In f_ref06_Power f_ref07_Told f_ref12_Told f_ref15_Signed f_ref15_Take F_ref16_Take_23 F_ref16_Take_36 F_ref16_Take_42 F_ref16_Take_53 F_ref16_Take_67 F_ref16_Take_78).2.1 k x.1 x.2.1 x.2.2.1 x.2.2.2.1 x.2.2.2.2.1 x.2.2.2.2.2.1 x.2.2.2.2.2.2.1 x.2.2.2.2.2.2.2.1 x.2.2.2.2.2.2.2.2.1 x.2.2.2.2.2.2.2.2.2.1 x.2.2.2.2.2.2.2.2.2.2.1 x.2.2.2.2.2.2.2.2.2.2.2.1 x.2.2.2.2.2.2.2.2.2.2.2.2.1 x.2.2.2.2.2.2.2.2.2.2.2.2.2.1 x.2.2.2.2.2.2.2.2.2.2.2.2.2.2.1 x.2.2.2.2.2.2.2.2.2.2.2.2.2.2.2.1 x.2.2.2.2.2.2.2.2.2.2.2.2.2.2.2.2.1 x.2.2.2.2.2.2.2.2.2.2.2.2.2.2.2.2.2.1 x.2.2.2.2.2.2.2.2.2.2.2.2.2.2.2.2.2.2.1 x.2.2.2.2.2.2.2.2.2.2.2.2.2.2.2.2.2.2.2.1 x.2.2.2.2.2.2.2.2.2.2.2.2.2.2.2.2.2.2.2.2.1 x.2.2.2.2.2.2.2.2.2.2.2.2.2.2.2.2.2.2.2.2.2.1 x.2.2.2.2.2.2.2.2.2.2.2.2.2.2.2.2.2.2.2.2.2.2.1 x.2.2.2.2.2.2.2.2.2.2.2.2.2.2.2.2.2.2.2.2.2.2.2.1 x.2.2.2.2.2.2.2.2.2.2.2.2.2.2.2.2.2.2.2.2.2.2.2.2.1 x.2.2.2.2.2.2.2.2.2.2.2.2.2.2.2.2.2.2.2.2.2.2.2.2.2.1 x.2.2.2.2.2.2.2.2.2.2.2.2.2.2.2.2.2.2.2.2.2.2.2.2.2.2.1 x.2.2.2.2.2.2.2.2.2.2.2.2.2.2.2.2.2.2.2.2.2.2.2.2.2.2.2.1 x.2.2.2.2.2.2.2.2.2.2.2.2.2.2.2.2.2.2.2.2.2.2.2.2.2.2.2.2.1 x.2.2.2.2.2.2.2.2.2.2.2.2.2.2.2.2.2.2.2.2.2.2.2.2.2.2.2.2.2.1 x.2.2.2.2.2.2.2.2.2.2.2.2.2.2.2.2.2.2.2.2.2.2.2.2.2.2.2.2.2.2.1 x.2.2.2.2.2.2.2.2.2.2.2.2.2.2.2.2.2.2.2.2.2.2.2.2.2.2.2.2.2.2.2.1 x.2.2.2.2.2.2.2.2.2.2.2.2.2.2.2.2.2.2.2.2.2.2.2.2.2.2.2.2.2.2.2.2.1 x.2.2.2.2.2.2.2.2.2.2.2.2.2.2.2.2.2.2.2.2.2.2.2.2.2.2.2.2.2.2.2.2.2.1 x.2.2.2.2.2.2.2.2.2.2.2.2.2.2.2.2.2.2.2.2.2.2.2.2.2.2.2.2.2.2.2.2.2.2.1 x.2.2.2.2.2.2.2.2.2.2.2.2.2.2.2.2.2.2.2.2.2.2.2.2.2.2.2.2.2.2.2.2.2.2.2, fact_of fun k x => (q_ref16_Take f_ref01_Reader_Take f_ref06_In f_ref06_Power f_ref07_Told f_ref12_Told f_ref15_Signed f_ref15_Take F_ref16_Take_23 F_ref16_Take_36 F_ref16_Take_42 F_ref16_Take_53 F_ref16_Take_67 F_ref16_Take_78).2.2.1 k x.1 x.2.1 x.2.2.1 x.2.2.2.1 x.2.2.2.2.1 x.2.2.2.2.2.1 x.2.2.2.2.2.2.1 x.2.2.2.2.2.2.2.1 x.2.2.2.2.2.2.2.2.1 x.2.2.2.2.2.2.2.2.2.1 x.2.2.2.2.2.2.2.2.2.2.1 x.2.2.2.2.2.2.2.2.2.2.2.1 x.2.2.2.2.2.2.2.2.2.2.2.2.1 x.2.2.2.2.2.2.2.2.2.2.2.2.2.1 x.2.2.2.2.2.2.2.2.2.2.2.2.2.2.1 x.2.2.2.2.2.2.2.2.2.2.2.2.2.2.2.1 x.2.2.2.2.2.2.2.2.2.2.2.2.2.2.2.2.1 x.2.2.2.2.2.2.2.2.2.2.2.2.2.2.2.2.2.1 x.2.2.2.2.2.2.2.2.2.2.2.2.2.2.2.2.2.2.1 x.2.2.2.2.2.2.2.2.2.2.2.2.2.2.2.2.2.2.2.1 x.2.2.2.2.2.2.2.2.2.2.2.2.2.2.2.2.2.2.2.2.1 x.2.2.2.2.2.2.2.2.2.2.2.2.2.2.2.2.2.2.2.2.2.1 x.2.2.2.2.2.2.2.2.2.2.2.2.2.2.2.2.2.2.2.2.2.2.1 x.2.2.2.2.2.2.2.2.2.2.2.2.2.2.2.2.2.2.2.2.2.2.2.1 x.2.2.2.2.2.2.2.2.2.2.2.2.2.2.2.2.2.2.2.2.2.2.2.2.1 x.2.2.2.2.2.2.2.2.2.2.2.2.2.2.2.2.2.2.2.2.2.2.2.2.2.1 x.2.2.2.2.2.2.2.2.2.2.2.2.2.2.2.2.2.2.2.2.2.2.2.2.2.2.1 x.2.2.2.2.2.2.2.2.2.2.2.2.2.2.2.2.2.2.2.2.2.2.2.2.2.2.2.1 x.2.2.2.2.2.2.2.2.2.2.2.2.2.2.2.2.2.2.2.2.2.2.2.2.2.2.2.2.1 x.2.2.2.2.2.2.2.2.2.2.2.2.2.2.2.2.2.2.2.2.2.2.2.2.2.2.2.2.2.1 x.2.2.2.2.2.2.2.2.2.2.2.2.2.2.2.2.2.2.2.2.2.2.2.2.2.2.2.2.2.2.1 x.2.2.2.2.2.2.2.2.2.2.2.2.2.2.2.2.2.2.2.2.2.2.2.2.2.2.2.2.2.2.2.1 x.2.2.2.2.2.2.2.2.2.2.2.2.2.2.2.2.2.2.2.2.2.2.2.2.2.2.2.2.2.2.2.2.1 x.2.2.2.2.2.2.2.2.2.2.2.2.2.2.2.2.2.2.2.2.2.2.2.2.2.2.2.2.2.2.2.2.2, fact_of fun k x => (q_ref16_Take f_ref01_Reader_Take f_ref06_In f_ref06_Power f_ref07_Told f_ref12_Told f_ref15_Signed f_ref15_Take F_ref16_Take_23 F_ref16_Take_36 F_ref16_Take_42 F_ref16_Take_53 F_ref16_Take_67 F_ref16_Take_78).2.2.2.1 k x.1 x.2.1 x.2.2.1 x.2.2.2.1 x.2.2.2.2.1 x.2.2.2.2.2.1 x.2.2.2.2.2.2.1 x.2.2.2.2.2.2.2.1 x.2.2.2.2.2.2.2.2.1 x.2.2.2.2.2.2.2.2.2.1 x.2.2.2.2.2.2.2.2.2.2.1 x.2.2.2.2.2.2.2.2.2.2.2.1 x.2.2.2.2.2.2.2.2.2.2.2.2.1 x.2.2.2.2.2.2.2.2.2.2.2.2.2.1 x.2.2.2.2.2.2.2.2.2.2.2.2.2.2.1 x.2.2.2.2.2.2.2.2.2.2.2.2.2.2.2.1 x.2.2.2.2.2.2.2.2.2.2.2.2.2.2.2.2.1 x.2.2.2.2.2.2.2.2.2.2.2.2.2.2.2.2.2.1 x.2.2.2.2.2.2.2.2.2.2.2.2.2.2.2.2.2.2.1 x.2.2.2.2.2.2.2.2.2.2.2.2.2.2.2.2.2.2.2.1 x.2.2.2.2.2.2.2.2.2.2.2.2.2.2.2.2.2.2.2.2.1 x.2.2.2.2.2.2.2.2.2.2.2.2.2.2.2.2.2.2.2.2.2.1 x.2.2.2.2.2.2.2.2.2.2.2.2.2.2.2.2.2.2.2.2.2.2.1 x.2.2.2.2.2.2.2.2.2.2.2.2.2.2.2.2.2.2.2.2.2.2.2.1 x.2.2.2.2.2.2.2.2.2.2.2.2.2.2.2.2.2.2.2.2.2.2.2.2.1 x.2.2.2.2.2.2.2.2.2.2.2.2.2.2.2.2.2.2.2.2.2.2.2.2.2.1 x.2.2.2.2.2.2.2.2.2.2.2.2.2.2.2.2.2.2.2.2.2.2.2.2.2.2.1 x.2.2.2.2.2.2.2.2.2.2.2.2.2.2.2.2.2.2.2.2.2.2.2.2.2.2.2.1 x.2.2.2.2.2.2.2.2.2.2.2.2.2.2.2.2.2.2.2.2.2.2.2.2.2.2.2.2.1 x.2.2.2.2.2.2.2.2.2.2.2.2.2.2.2.2.2.2.2.2.2.2.2.2.2.2.2.2.2.1 x.2.2.2.2.2.2.2.2.2.2.2.2.2.2.2.2.2.2.2.2.2.2.2.2.2.2.2.2.2.2.1 x.2.2.2.2.2.2.2.2.2.2.2.2.2.2.2.2.2.2.2.2.2.2.2.2.2.2.2.2.2.2.2.1 x.2.2.2.2.2.2.2.2.2.2.2.2.2.2.2.2.2.2.2.2.2.2.2.2.2.2.2.2.2.2.2.2.1 x.2.2.2.2.2.2.2.2.2.2.2.2.2.2.2.2.2.2.2.2.2.2.2.2.2.2.2.2.2.2.2.2.2.1 x.2.2.2.2.2.2.2.2.2.2.2.2.2.2.2.2.2.2.2.2.2.2.2.2.2.2.2.2.2.2.2.2.2.2.1 x.2.2.2.2.2.2.2.2.2.2.2.2.2.2.2.2.2.2.2.2.2.2.2.2.2.2.2.2.2.2.2.2.2.2.2, fact_of fun k x => (q_ref16_Take f_ref01_Reader_Take f_ref06_In f_ref06_Power f_ref07_Told f_ref12_Told f_ref15_Signed f_ref15_Take F_ref16_Take_23 F_ref16_Take_36 F_ref16_Take_42 F_ref16_Take_53 F_ref16_Take_67 F_ref16_Take_78).2.2.2.2.1 k x.1 x.2.1 x.2.2.1 x.2.2.2.1 x.2.2.2.2.1 x.2.2.2.2.2.1 x.2.2.2.2.2.2.1 x.2.2.2.2.2.2.2.1 x.2.2.2.2.2.2.2.2.1 x.2.2.2.2.2.2.2.2.2.1 x.2.2.2.2.2.2.2.2.2.2.1 x.2.2.2.2.2.2.2.2.2.2.2.1 x.2.2.2.2.2.2.2.2.2.2.2.2.1 x.2.2.2.2.2.2.2.2.2.2.2.2.2.1 x.2.2.2.2.2.2.2.2.2.2.2.2.2.2.1 x.2.2.2.2.2.2.2.2.2.2.2.2.2.2.2.1 x.2.2.2.2.2.2.2.2.2.2.2.2.2.2.2.2.1 x.2.2.2.2.2.2.2.2.2.2.2.2.2.2.2.2.2.1 x.2.2.2.2.2.2.2.2.2.2.2.2.2.2.2.2.2.2.1 x.2.2.2.2.2.2.2.2.2.2.2.2.2.2.2.2.2.2.2.1 x.2.2.2.2.2.2.2.2.2.2.2.2.2.2.2.2.2.2.2.2.1 x.2.2.2.2.2.2.2.2.2.2.2.2.2.2.2.2.2.2.2.2.2.1 x.2.2.2.2.2.2.2.2.2.2.2.2.2.2.2.2.2.2.2.2.2.2.1 x.2.2.2.2.2.2.2.2.2.2.2.2.2.2.2.2.2.2.2.2.2.2.2.1 x.2.2.2.2.2.2.2.2.2.2.2.2.2.2.2.2.2.2.2.2.2.2.2.2.1 x.2.2.2.2.2.2.2.2.2.2.2.2.2.2.2.2.2.2.2.2.2.2.2.2.2.1 x.2.2.2.2.2.2.2.2.2.2.2.2.2.2.2.2.2.2.2.2.2.2.2.2.2.2.1 x.2.2.2.2.2.2.2.2.2.2.2.2.2.2.2.2.2.2.2.2.2.2.2.2.2.2.2.1 x.2.2.2.2.2.2.2.2.2.2.2.2.2.2.2.2.2.2.2.2.2.2.2.2.2.2.2.2.1 x.2.2.2.2.2.2.2.2.2.2.2.2.2.2.2.2.2.2.2.2.2.2.2.2.2.2.2.2.2.1 x.2.2.2.2.2.2.2.2.2.2.2.2.2.2.2.2.2.2.2.2.2.2.2.2.2.2.2.2.2.2.1 x.2.2.2.2.2.2.2.2.2.2.2.2.2.2.2.2.2.2.2.2.2.2.2.2.2.2.2.2.2.2.2.1 x.2.2.2.2.2.2.2.2.2.2.2.2.2.2.2.2.2.2.2.2.2.2.2.2.2.2.2.2.2.2.2.2.1 x.2.2.2.2.2.2.2.2.2.2.2.2.2.2.2.2.2.2.2.2.2.2.2.2.2.2.2.2.2.2.2.2.2.1 x.2.2.2.2.2.2.2.2.2.2.2.2.2.2.2.2.2.2.2.2.2.2.2.2.2.2.2.2.2.2.2.2.2.2, fact_of fun k x => (q_ref16_Take f_ref01_Reader_Take f_ref06_In f_ref06_Power f_ref07_Told f_ref12_Told f_ref15_Signed f_ref15_Take F_ref16_Take_23 F_ref16_Take_36 F_ref16_Take_42 F_ref16_Take_53 F_ref16_Take_67 F_ref16_Take_78).2.2.2.2.2.1 k x.1 x.2.1 x.2.2.1 x.2.2.2.1 x.2.2.2.2.1 x.2.2.2.2.2.1 x.2.2.2.2.2.2.1 x.2.2.2.2.2.2.2.1 x.2.2.2.2.2.2.2.2.1 x.2.2.2.2.2.2.2.2.2.1 x.2.2.2.2.2.2.2.2.2.2.1 x.2.2.2.2.2.2.2.2.2.2.2.1 x.2.2.2.2.2.2.2.2.2.2.2.2.1 x.2.2.2.2.2.2.2.2.2.2.2.2.2.1 x.2.2.2.2.2.2.2.2.2.2.2.2.2.2.1 x.2.2.2.2.2.2.2.2.2.2.2.2.2.2.2.1 x.2.2.2.2.2.2.2.2.2.2.2.2.2.2.2.2.1 x.2.2.2.2.2.2.2.2.2.2.2.2.2.2.2.2.2.1 x.2.2.2.2.2.2.2.2.2.2.2.2.2.2.2.2.2.2.1 x.2.2.2.2.2.2.2.2.2.2.2.2.2.2.2.2.2.2.2.1 x.2.2.2.2.2.2.2.2.2.2.2.2.2.2.2.2.2.2.2.2.1 x.2.2.2.2.2.2.2.2.2.2.2.2.2.2.2.2.2.2.2.2.2.1 x.2.2.2.2.2.2.2.2.2.2.2.2.2.2.2.2.2.2.2.2.2.2, trivial⟩ fun x => (q_ref16_Take f_ref01_Reader_Take f_ref06_In f_ref06_Power f_ref07_Told f_ref12_Told f_ref15_Signed f_ref15_Take F_ref16_Take_23 F_ref16_Take_36 F_ref16_Take_42 F_ref16_Take_53 F_ref16_Take_67 F_ref16_Take_78).2.2.2.2.2.2 x.1 x.2.1 x.2.2.1 x.2.2.2.1 x.2.2.2.2

/-! serinette/serinetteref01.Ints -/
abbrev G_ref01_Ints := (List Int) × (List Int) → Option (Bool)
abbrev L_ref01_Ints_4 := (List Int) × (List Int) × Int → Option (Unit ⊕ Bool)
def B_ref01_Ints_4 (again : L_ref01_Ints_4) : L_ref01_Ints_4
  | (a3, a4, a5) =>
    Option.bind (α := ((List Int) × (List Int) × Int) ⊕ Unit) (
      if (decide (a5 < (((List.length a3 : Nat) : Int)))) = true then
        some ((.inl (a3, a4, a5)))
      else
        some ((.inr ()))) fun o => match o with
      | (.inl (x6, x7, x8)) =>
        (idx x6 x8).bind fun x9 =>
        (idx x7 x8).bind fun x10 =>
        if (x9 != x10) = true then
          some ((.inr false))
        else
          again ((x6, x7, (addI .i64 x8 ((1 : Int)))))
      | (.inr _) =>
        some ((.inl ()))
noncomputable def F_ref01_Ints_4 : L_ref01_Ints_4 := lfp B_ref01_Ints_4
abbrev S_ref01_Ints_4 (l : L_ref01_Ints_4) : LoopS := ⟨⟨.normal, [], [(0, vL), (1, vL), (5, vI)], [], [tL, tL, tI]⟩, [⟨.exit 0, [], [], [], []⟩, ⟨.ret, [], [(4, vO)], [], [tO]⟩], l⟩
def F_ref01_Ints (l_4 : L_ref01_Ints_4) : G_ref01_Ints
  | (p1, p2) =>
    if ((((List.length p1 : Nat) : Int)) != (((List.length p2 : Nat) : Int))) = true then
      some false
    else
      Option.bind (α := Unit ⊕ Bool) (
        l_4 ((p1, p2, (0 : Int)))) fun o => match o with
        | (.inl _) =>
          some true
        | (.inr x11) =>
          some x11
noncomputable def f_ref01_Ints : G_ref01_Ints := F_ref01_Ints F_ref01_Ints_4
def s_ref01_Ints : Sig := ⟨[vL, vL], [tL, tL], [⟨vO, [], [tO]⟩]⟩
def D_ref01_Ints (l_4 : L_ref01_Ints_4) : Desc := ⟨[], [0, 1, 2, 3, 4, 5], false, [], [(14, [⟨.normal, [], [(0, vL), (1, vL), (5, vI)], [], [tL, tL, tI]⟩, ⟨.exit 0, [], [], [], []⟩])], [(4, S_ref01_Ints_4 l_4)], [false]⟩
theorem q_ref01_Ints (l_4 : L_ref01_Ints_4) : (∀ (k : L_ref01_Ints_4) (a3 : List Int) (a4 : List Int) (a5 : Int), (D_ref01_Ints l_4).step Proofs.Try.prog Proofs.Try.f11 4 (S_ref01_Ints_4 l_4) k (a3, a4, a5) = B_ref01_Ints_4 k (a3, a4, a5)) ∧ (∀ (p1 : List Int) (p2 : List Int), (D_ref01_Ints l_4).body Proofs.Try.prog Proofs.Try.f11 s_ref01_Ints (p1, p2) = F_ref01_Ints l_4 (p1, p2)) := ⟨fun k a3 a4 a5 => by kernel_rfl, fun p1 p2 => by kernel_rfl⟩
theorem k_ref01_Ints : Known Proofs.Try.prog 11 (s_ref01_Ints.sp f_ref01_Ints) :=
  known_of (D := D_ref01_Ints F_ref01_Ints_4) mixed Proofs.Try.func11 (by kernel_rfl) (by kernel_rfl) trivial ⟨fact_of fun k x => (q_ref01_Ints F_ref01_Ints_4).1 k x.1 x.2.1 x.2.2, trivial⟩ fun x => (q_ref01_Ints F_ref01_Ints_4).2 x.1 x.2

/-! serinette/serinetteref14.Same -/
abbrev G_ref14_Same := e4 × e4 → Option (Bool)
abbrev L_ref14_Same_4 := Int × Bool × Int × (List e0) × Bool × Int × (List e0) → Option (Unit ⊕ Bool)
def B_ref14_Same_4 (again : L_ref14_Same_4) : L_ref14_Same_4
  | (a10, a11, a12, a13, a14, a15, a16) =>
    Option.bind (α := (Int × Bool × Int × (List e0) × Bool × Int × (List e0)) ⊕ Unit) (
      if (decide (a10 < (((List.length a13 : Nat) : Int)))) = true then
        some ((.inl (a10, a11, a12, a13, a14, a15, a16)))
      else
        some ((.inr ()))) fun o => match o with
      | (.inl (x17, x18, x19, x20, x21, x22, x23)) =>
        (idx x20 x17).bind fun x24 =>
        (idx x23 x17).bind fun x25 =>
        if (!(beqEl y0 x24 x25)) = true then
          some ((.inr false))
        else
          again (((addI .i64 x17 ((1 : Int))), x18, x19, x20, x21, x22, x23))
      | (.inr _) =>
        some ((.inl ()))
noncomputable def F_ref14_Same_4 : L_ref14_Same_4 := lfp B_ref14_Same_4
abbrev S_ref14_Same_4 (l : L_ref14_Same_4) : LoopS := ⟨⟨.normal, [], [(2, .ptr 8192 0 0), (3, .ptr 12288 0 0), (5, vI)], [(8192, 0, .box [vO, vI, .val (.slice y0)]), (12288, 0, .box [vO, vI, .val (.slice y0)])], [tI, tO, tI, .slice y0, tO, tI, .slice y0]⟩, [⟨.exit 0, [], [], [], []⟩, ⟨.ret, [], [(4, vO)], [], [tO]⟩], l⟩
def F_ref14_Same (l_4 : L_ref14_Same_4) : G_ref14_Same
  | (p1, p2) =>
    Option.bind (α := (Bool × Bool × Int × (List e0) × Bool × Int × (List e0))) (
      if (!(p1.1 == p2.1)) = true then
        some ((true, p1.1, p1.2.1, p1.2.2.1, p2.1, p2.2.1, p2.2.2.1))
      else
        if (p1.2.1 != p2.2.1) = true then
          some ((true, p1.1, p1.2.1, p1.2.2.1, p2.1, p2.2.1, p2.2.2.1))
        else
          some ((((((List.length p1.2.2.1 : Nat) : Int)) != (((List.length p2.2.2.1 : Nat) : Int))), p1.1, p1.2.1, p1.2.2.1, p2.1, p2.2.1, p2.2.2.1))) fun (x3, x4, x5, x6, x7, x8, x9) =>
    if x3 = true then
      some false
    else
      Option.bind (α := Unit ⊕ Bool) (
        l_4 (((0 : Int), x4, x5, x6, x7, x8, x9))) fun o => match o with
        | (.inl _) =>
          some true
        | (.inr x26) =>
          some x26
noncomputable def f_ref14_Same : G_ref14_Same := F_ref14_Same F_ref14_Same_4
def s_ref14_Same : Sig := ⟨[.val y4, .val y4], [y4, y4], [⟨vO, [], [tO]⟩]⟩
def D_ref14_Same (l_4 : L_ref14_Same_4) : Desc := ⟨[], [0, 1, 2, 3, 4, 5], false, [], [(300001, [⟨.normal, [], [(2, .ptr 8192 0 0), (3, .ptr 12288 0 0), (26, vO)], [(8192, 0, .box [vO, vI, .val (.slice y0)]), (12288, 0, .box [vO, vI, .val (.slice y0)])], [tO, tO, tI, .slice y0, tO, tI, .slice y0]⟩]), (31, [⟨.normal, [], [(2, .ptr 8192 0 0), (3, .ptr 12288 0 0), (5, vI)], [(8192, 0, .box [vO, vI, .val (.slice y0)]), (12288, 0, .box [vO, vI, .val (.slice y0)])], [tI, tO, tI, .slice y0, tO, tI, .slice y0]⟩, ⟨.exit 0, [], [], [], []⟩])], [(4, S_ref14_Same_4 l_4)], [false]⟩
theorem q_ref14_Same (l_4 : L_ref14_Same_4) : (∀ (k : L_ref14_Same_4) (a10 : Int) (a11 : Bool) (a12 : Int) (a13 : List e0) (a14 : Bool) (a15 : Int) (a16 : List e0), (D_ref14_Same l_4).step Proofs.Try.prog Proofs.Try.f38 4 (S_ref14_Same_4 l_4) k (a10, a11, a12, a13, a14, a15, a16) = B_ref14_Same_4 k (a10, a11, a12, a13, a14, a15, a16)) ∧ (∀ (p1 : e4) (p2 : e4), (D_ref14_Same l_4).body Proofs.Try.prog Proofs.Try.f38 s_ref14_Same (p1, p2) = F_ref14_Same l_4 (p1, p2)) := ⟨fun k a10 a11 a12 a13 a14 a15 a16 => by kernel_rfl, fun p1 p2 => by kernel_rfl⟩
theorem k_ref14_Same : Known Proofs.Try.prog 38 (s_ref14_Same.sp f_ref14_Same) :=
  known_of (D := D_ref14_Same F_ref14_Same_4) mixed Proofs.Try.func38 (by kernel_rfl) (by kernel_rfl) trivial ⟨fact_of fun k x => (q_ref14_Same F_ref14_Same_4).1 k x.1 x.2.1 x.2.2.1 x.2.2.2.1 x.2.2.2.2.1 x.2.2.2.2.2.1 x.2.2.2.2.2.2, trivial⟩ fun x => (q_ref14_Same F_ref14_Same_4).2 x.1 x.2

/-! serinette/serinetteref16.Same -/
abbrev G_ref16_Same := e9 × e9 → Option (Bool)
def F_ref16_Same (g_ref01_Ints : G_ref01_Ints) (g_ref14_Same : G_ref14_Same) : G_ref16_Same
  | (p1, p2) =>
    Option.bind (α := (Bool × Int × Int × Int × Int × Int × (List Int) × Bool × Int × (List e0) × Int × Int × Int × Int × Int × (List Int) × Bool × Int × (List e0))) (
      if (p1.1 != p2.1) = true then
        some ((true, p1.1, p1.2.1, p1.2.2.1, p1.2.2.2.1.1, p1.2.2.2.1.2.1, p1.2.2.2.1.2.2.1, p1.2.2.2.2.1.1, p1.2.2.2.2.1.2.1, p1.2.2.2.2.1.2.2.1, p2.1, p2.2.1, p2.2.2.1, p2.2.2.2.1.1, p2.2.2.2.1.2.1, p2.2.2.2.1.2.2.1, p2.2.2.2.2.1.1, p2.2.2.2.2.1.2.1, p2.2.2.2.2.1.2.2.1))
      else
        if (p1.2.1 != p2.2.1) = true then
          some ((true, p1.1, p1.2.1, p1.2.2.1, p1.2.2.2.1.1, p1.2.2.2.1.2.1, p1.2.2.2.1.2.2.1, p1.2.2.2.2.1.1, p1.2.2.2.2.1.2.1, p1.2.2.2.2.1.2.2.1, p2.1, p2.2.1, p2.2.2.1, p2.2.2.2.1.1, p2.2.2.2.1.2.1, p2.2.2.2.1.2.2.1, p2.2.2.2.2.1.1, p2.2.2.2.2.1.2.1, p2.2.2.2.2.1.2.2.1))
        else
          if (p1.2.2.1 != p2.2.2.1) = true then
            some ((true, p1.1, p1.2.1, p1.2.2.1, p1.2.2.2.1.1, p1.2.2.2.1.2.1, p1.2.2.2.1.2.2.1, p1.2.2.2.2.1.1, p1.2.2.2.2.1.2.1, p1.2.2.2.2.1.2.2.1, p2.1, p2.2.1, p2.2.2.1, p2.2.2.2.1.1, p2.2.2.2.1.2.1, p2.2.2.2.1.2.2.1, p2.2.2.2.2.1.1, p2.2.2.2.2.1.2.1, p2.2.2.2.2.1.2.2.1))
          else
            if (p1.2.2.2.1.1 != p2.2.2.2.1.1) = true then
              some ((true, p1.1, p1.2.1, p1.2.2.1, p1.2.2.2.1.1, p1.2.2.2.1.2.1, p1.2.2.2.1.2.2.1, p1.2.2.2.2.1.1, p1.2.2.2.2.1.2.1, p1.2.2.2.2.1.2.2.1, p2.1, p2.2.1, p2.2.2.1, p2.2.2.2.1.1, p2.2.2.2.1.2.1, p2.2.2.2.1.2.2.1, p2.2.2.2.2.1.1, p2.2.2.2.2.1.2.1, p2.2.2.2.2.1.2.2.1))
            else
              some (((p1.2.2.2.1.2.1 != p2.2.2.2.1.2.1), p1.1, p1.2.1, p1.2.2.1, p1.2.2.2.1.1, p1.2.2.2.1.2.1, p1.2.2.2.1.2.2.1, p1.2.2.2.2.1.1, p1.2.2.2.2.1.2.1, p1.2.2.2.2.1.2.2.1, p2.1, p2.2.1, p2.2.2.1, p2.2.2.2.1.1, p2.2.2.2.1.2.1, p2.2.2.2.1.2.2.1, p2.2.2.2.2.1.1, p2.2.2.2.2.1.2.1, p2.2.2.2.2.1.2.2.1))) fun (x3, x4, x5, x6, x7, x8, x9, x10, x11, x12, x13, x14, x15, x16, x17, x18, x19, x20, x21) =>
    if x3 = true then
      some false
    else
      Option.bind (α := Bool) (
        (g_ref01_Ints ((x9, x18))).bind fun x22 =>
        if x22 = true then
          (g_ref14_Same (((x10, (x11, (x12, ()))), (x19, (x20, (x21, ())))))).bind fun x23 =>
          some x23
        else
          some false) fun x24 =>
      some x24
noncomputable def f_ref16_Same : G_ref16_Same := F_ref16_Same f_ref01_Ints f_ref14_Same
def s_ref16_Same : Sig := ⟨[.val y9, .val y9], [y9, y9], [⟨vO, [], [tO]⟩]⟩
def D_ref16_Same (g_ref01_Ints : G_ref01_Ints) (g_ref14_Same : G_ref14_Same) : Desc := ⟨[(11, s_ref01_Ints.sp g_ref01_Ints), (38, s_ref14_Same.sp g_ref14_Same)], [0, 1, 2, 3, 4], false, [], [(300001, [⟨.normal, [], [(2, .ptr 8192 0 0), (3, .ptr 12288 0 0), (41, vO)], [(8192, 0, .box [vI, vI, vI, vI, vI, vL, vO, vI, .val (.slice y0)]), (12288, 0, .box [vI, vI, vI, vI, vI, vL, vO, vI, .val (.slice y0)])], [tO, tI, tI, tI, tI, tI, tL, tO, tI, .slice y0, tI, tI, tI, tI, tI, tL, tO, tI, .slice y0]⟩]), (300003, [⟨.normal, [], [(4, vO)], [], [tO]⟩])], [], [false]⟩
theorem q_ref16_Same (g_ref01_Ints : G_ref01_Ints) (g_ref14_Same : G_ref14_Same) : ∀ (p1 : e9) (p2 : e9), (D_ref16_Same g_ref01_Ints g_ref14_Same).body Proofs.Try.prog Proofs.Try.f12 s_ref16_Same (p1, p2) = F_ref16_Same g_ref01_Ints g_ref14_Same (p1, p2) := fun p1 p2 => by kernel_rfl
theorem k_ref16_Same : Known Proofs.Try.prog 12 (s_ref16_Same.sp f_ref16_Same) :=
  known_of (D := D_ref16_Same f_ref01_Ints f_ref14_Same) mixed Proofs.Try.func12 (by kernel_rfl) (by kernel_rfl) ⟨k_ref01_Ints, k_ref14_Same, trivial⟩ trivial fun x => (q_ref16_Same f_ref01_Ints f_ref14_Same) x.1 x.2

/-! (*serinette/bits.Reader).At -/
abbrev G_bits_Reader_At := (List Int) × Int × Int → Option ((Int × (List Int) × Int × Int))
def F_bits_Reader_At : G_bits_Reader_At
  | (p1, p2, p3) =>
    some ((p2, p1, p2, p3))
noncomputable def f_bits_Reader_At : G_bits_Reader_At := F_bits_Reader_At
def s_bits_Reader_At : Sig := ⟨[.box [vB, vI, vI]], [tB, tI, tI], [⟨vI, [.box [vB, vI, vI]], [tI, tB, tI, tI]⟩]⟩
def D_bits_Reader_At : Desc := ⟨[], [0, 1, 2], false, [], [], [], [false]⟩
theorem q_bits_Reader_At : ∀ (p1 : List Int) (p2 : Int) (p3 : Int), D_bits_Reader_At.body Proofs.Try.prog Proofs.Try.f13 s_bits_Reader_At (p1, p2, p3) = F_bits_Reader_At (p1, p2, p3) := fun p1 p2 p3 => by kernel_rfl
theorem k_bits_Reader_At : Known Proofs.Try.prog 13 (s_bits_Reader_At.sp f_bits_Reader_At) :=
  known_of (D := D_bits_Reader_At) mixed Proofs.Try.func13 (by kernel_rfl) (by kernel_rfl) trivial trivial fun x => q_bits_Reader_At x.1 x.2.1 x.2.2

/-! serinette/serinettelaw16.SubframeTakes -/
abbrev G_law16_SubframeTakes := (List Int) × Int × Int → Option (Bool)
def F_law16_SubframeTakes (g_bits_Open : G_bits_Open) (g_bits_Reader_At : G_bits_Reader_At) (g_law16_awake : G_law16_awake) (g_ref01_Bits : G_ref01_Bits) (g_ref01_Ints : G_ref01_Ints) (g_ref16_Same : G_ref16_Same) (g_ref16_Take : G_ref16_Take) (g_subframe_Take : G_subframe_Take) : G_law16_SubframeTakes
  | (p1, p2, p3) =>
    (g_law16_awake ()).bind fun x4 =>
    Option.bind (α := ((List Int) × Int × Int × Bool × Bool)) (
      if (decide ((((List.length p1 : Nat) : Int)) > ((100 : Int)))) = true then
        some ((p1, p2, p3, x4, true))
      else
        if (decide (p2 > ((100 : Int)))) = true then
          some ((p1, p2, p3, x4, (decide (p2 ≤ ((65535 : Int))))))
        else
          some ((p1, p2, p3, x4, false))) fun (x5, x6, x7, x8, x9) =>
    if x9 = true then
      some x8
    else
      (g_bits_Open x5).bind fun (x10, x11, x12) =>
      (g_ref01_Bits x5).bind fun x13 =>
      (g_subframe_Take ((x10, x11, x12, x6, x7))).bind fun (x14, x15, x16, x17, x18, x19) =>
      (g_ref16_Take ((x13, (0 : Int), (0 : Int), x6, x7))).bind fun (x20, x21, x22, x23, x24, x25) =>
      Option.bind (α := Bool) (
        if x8 = true then
          if (x16 == x22) = true then
            (g_ref01_Ints ((x14, x20))).bind fun x26 =>
            if x26 = true then
              (g_ref16_Same (((x15.1, (x15.2.1, (x15.2.2.1, ((x15.2.2.2.1.1, (x15.2.2.2.1.2.1, (x15.2.2.2.1.2.2.1, ()))), ((x15.2.2.2.2.1.1, (x15.2.2.2.2.1.2.1, (x15.2.2.2.2.1.2.2.1, ()))), ()))))), (x21.1, (x21.2.1, (x21.2.2.1, ((x21.2.2.2.1.1, (x21.2.2.2.1.2.1, (x21.2.2.2.1.2.2.1, ()))), ((x21.2.2.2.2.1.1, (x21.2.2.2.2.1.2.1, (x21.2.2.2.2.1.2.2.1, ()))), ())))))))).bind fun x27 =>
              if x27 = true then
                if (x16 != ((0 : Int))) = true then
                  some true
                else
                  (g_bits_Reader_At ((x17, x18, x19))).bind fun (x28, x29, x30, x31) =>
                  some ((x28 == x24))
              else
                some false
            else
              some false
          else
            some false
        else
          some false) fun x32 =>
      some x32
noncomputable def f_law16_SubframeTakes : G_law16_SubframeTakes := F_law16_SubframeTakes f_bits_Open f_bits_Reader_At f_law16_awake f_ref01_Bits f_ref01_Ints f_ref16_Same f_ref16_Take f_subframe_Take
def s_law16_SubframeTakes : Sig := ⟨[vB, vI, vI], [tB, tI, tI], [⟨vO, [], [tO]⟩]⟩
def D_law16_SubframeTakes (g_bits_Open : G_bits_Open) (g_bits_Reader_At : G_bits_Reader_At) (g_law16_awake : G_law16_awake) (g_ref01_Bits : G_ref01_Bits) (g_ref01_Ints : G_ref01_Ints) (g_ref16_Same : G_ref16_Same) (g_ref16_Take : G_ref16_Take) (g_subframe_Take : G_subframe_Take) : Desc := ⟨[(7, s_bits_Open.sp g_bits_Open), (13, s_bits_Reader_At.sp g_bits_Reader_At), (6, s_law16_awake.sp g_law16_awake), (8, s_ref01_Bits.sp g_ref01_Bits), (11, s_ref01_Ints.sp g_ref01_Ints), (12, s_ref16_Same.sp g_ref16_Same), (10, s_ref16_Take.sp g_ref16_Take), (9, s_subframe_Take.sp g_subframe_Take)], [0, 1, 2, 3, 4, 5, 6, 7, 8, 9, 10, 11, 12, 13, 14, 15], false, [], [(300002, [⟨.normal, [], [(0, vB), (1, vI), (2, vI), (7, vO), (27, vO)], [], [tB, tI, tI, tO, tO]⟩]), (300010, [⟨.normal, [], [(6, vO)], [], [tO]⟩])], [], [false]⟩
theorem q_law16_SubframeTakes (g_bits_Open : G_bits_Open) (g_bits_Reader_At : G_bits_Reader_At) (g_law16_awake : G_law16_awake) (g_ref01_Bits : G_ref01_Bits) (g_ref01_Ints : G_ref01_Ints) (g_ref16_Same : G_ref16_Same) (g_ref16_Take : G_ref16_Take) (g_subframe_Take : G_subframe_Take) : ∀ (p1 : List Int) (p2 : Int) (p3 : Int), (D_law16_SubframeTakes g_bits_Open g_bits_Reader_At g_law16_awake g_ref01_Bits g_ref01_Ints g_ref16_Same g_ref16_Take g_subframe_Take).body Proofs.Try.prog Proofs.Try.f3 s_law16_SubframeTakes (p1, p2, p3) = F_law16_SubframeTakes g_bits_Open g_bits_Reader_At g_law16_awake g_ref01_Bits g_ref01_Ints g_ref16_Same g_ref16_Take g_subframe_Take (p1, p2, p3) := fun p1 p2 p3 => by kernel_rfl
theorem k_law16_SubframeTakes : Known Proofs.Try.prog 3 (s_law16_SubframeTakes.sp f_law16_SubframeTakes) :=
  known_of (D := D_law16_SubframeTakes f_bits_Open f_bits_Reader_At f_law16_awake f_ref01_Bits f_ref01_Ints f_ref16_Same f_ref16_Take f_subframe_Take) mixed Proofs.Try.func3 (by kernel_rfl) (by kernel_rfl) ⟨k_bits_Open, k_bits_Reader_At, k_law16_awake, k_ref01_Bits, k_ref01_Ints, k_ref16_Same, k_ref16_Take, k_subframe_Take, trivial⟩ trivial fun x => (q_law16_SubframeTakes f_bits_Open f_bits_Reader_At f_law16_awake f_ref01_Bits f_ref01_Ints f_ref16_Same f_ref16_Take f_subframe_Take) x.1 x.2.1 x.2.2

end Go.Pv.Try

